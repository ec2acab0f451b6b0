/- Canonical runs: regions in the text's order, code, functions. Over any program. -/
import Derived.Test.YtmpojphjongdcaaCanH
namespace Go.Proofs.Ytmpojphjongdcaa
namespace Can
open Go Go.RowKit
set_option linter.unusedSimpArgs false
set_option linter.unusedVariables false
variable {P : Program} {B : Nat}

def runI (h : Hd) : List Item → Fr → CH → Option (Fr × CH)
  | [], fr, H => some (fr, H)
  | it :: r, fr, H => match stepI h it fr H with
    | some (fr', H') => runI h r fr' H'
    | none => none
/-- A region that draws its order: its operations, in an order that serves; and reads that are done again where another order would do them. -/
structure DReg where
  its : List Item
  chk : List (Item × Nat)
inductive RCode where
  | skip
  | reg (its : List Item)
  | drw (d : DReg)
  | seq (a b : RCode)
  | cond (c : Operand) (a b : RCode)
  | block (id : Nat) (c : RCode)
  | loop (c : RCode)
  | exit (id : Nat)
  | ret
inductive CExit where
  | normal
  | exit (id : Nat)
  | ret
def CExit.toExit : CExit → Exit
  | .normal => .normal
  | .exit i => .exit i
  | .ret => .ret
abbrev Res := Option (CExit × Fr × CH)
def loopN : Nat → (Fr → CH → Res) → Fr → CH → Res
  | 0, _, _, _ => none
  | n + 1, f, fr, H => match f fr H with
    | some (.normal, fr', H') => loopN n f fr' H'
    | r => r
/-- The items of a region that draws; the memory behind each that writes. -/
def isW : ROp → Bool
  | .w _ | .call _ _ | .callv _ _ => true
  | _ => false
def runD (h : Hd) : List Item → Fr → CH → Option (Fr × CH × List CH)
  | [], fr, H => some (fr, H, [])
  | it :: r, fr, H => match stepI h it fr H with
    | some (fr', H') => (runD h r fr' H').map fun (f, K, l) => (f, K, if isW it.op then H' :: l else l)
    | none => none
/-- A read, done again, reads the same. -/
def Again (fr : Fr) (G : CH) (it : Item) : Prop :=
  wantedF fr it.guard = some false ∨ ∃ x d, it.op = .l x ∧ it.dst = some d ∧ lop G (evF fr) x = some (fr d)
open Classical in
noncomputable def evD (h : Hd) (d : DReg) (fr : Fr) (H : CH) : Option (Fr × CH) :=
  match runD h d.its fr H with
  | some (fr', H', l) => if ∀ p ∈ d.chk, ∃ G, (H :: l)[p.2]? = some G ∧ Again fr' G p.1 then some (fr', H') else none
  | none => none
noncomputable def evR (h : Hd) (n : Nat) : RCode → Fr → CH → Res
  | .skip, fr, H => some (.normal, fr, H)
  | .reg its, fr, H => (runI h its fr H).map fun (f, K) => (.normal, f, K)
  | .drw d, fr, H => (evD h d fr H).map fun (f, K) => (.normal, f, K)
  | .seq a b, fr, H => match evR h n a fr H with
    | some (.normal, fr', H') => evR h n b fr' H'
    | r => r
  | .cond c a b, fr, H => match evF fr c with
    | .bool true => evR h n a fr H
    | .bool false => evR h n b fr H
    | _ => none
  | .block id c, fr, H => match evR h n c fr H with
    | some (.exit i, fr', H') => if i = id then some (.normal, fr', H') else some (.exit i, fr', H')
    | r => r
  | .loop c, fr, H => loopN n (evR h n c) fr H
  | .exit id, fr, H => some (.exit id, fr, H)
  | .ret, fr, H => some (.ret, fr, H)

/-- What a drawn region must be for its canonical form. -/
def DOk (P : Program) (N : Nat) (ops : Array Oper) (d : DReg) : Prop :=
  ∀ (B : Nat) (h : Hd) (ro : Option Nat) (β : Nat → Ent) (fr fr' : Fr) (H H' : CH) (a : Act) (w : World) (id : Nat) (Q : Exit → Act → World → Prop), HS P B h → Sim P B β H w → FR β N fr a → evD h d fr H = some (fr', H') →
    (∀ β' w' a', Sim P B β' H' w' → Evo β w β' w' → FR β' N fr' a' → a'.defers = a.defers → Q .normal a' w') → (Code.region id ops true).wpIn (Fn ro) 0 P Q a w
inductive CodeOk (P : Program) (N : Nat) : Code → RCode → Prop where
  | skip : CodeOk P N .skip .skip
  | label {l : Nat} : CodeOk P N (.label l) .skip
  | reg {id : Nat} {ops : Array Oper} {its : List Item} (hl : its.length = ops.size) (h : ∀ i (h1 : i < its.length) (h2 : i < ops.size), ItemOk P N ops ops[i] its[i]) : CodeOk P N (.region id ops false) (.reg its)
  | drw {id : Nat} {ops : Array Oper} {d : DReg} (h : DOk P N ops d) : CodeOk P N (.region id ops true) (.drw d)
  | seq {a b : Code} {ra rb : RCode} (ha : CodeOk P N a ra) (hb : CodeOk P N b rb) : CodeOk P N (.seq a b) (.seq ra rb)
  | cond {c : Operand} {a b : Code} {ra rb : RCode} (hc : okOpnd c = true) (ha : CodeOk P N a ra) (hb : CodeOk P N b rb) : CodeOk P N (.cond c a b) (.cond c ra rb)
  | block {id : Nat} {c : Code} {rc : RCode} (h : CodeOk P N c rc) : CodeOk P N (.block id c) (.block id rc)
  | loop {c : Code} {rc : RCode} (h : CodeOk P N c rc) : CodeOk P N (.loop c) (.loop rc)
  | exit {id : Nat} : CodeOk P N (.exit id) (.exit id)
  | ret : CodeOk P N .ret .ret

theorem items_sound {h : Hd} (hh : HS P B h) {ro : Option Nat} {N : Nat} {ops : Array Oper} {Q : Exit → Act → World → Prop} : ∀ (l : List Nat) (its : List Item) (β : Nat → Ent) (fr fr' : Fr) (H H' : CH) (a : Act) (w : World),
    its.length = l.length → (∀ k (h1 : k < its.length) (h2 : k < l.length), ∃ o, ops[l[k]]? = some o ∧ ItemOk P N ops o its[k]) → Sim P B β H w → FR β N fr a → runI h its fr H = some (fr', H') →
    (∀ β' w' a', Sim P B β' H' w' → Evo β w β' w' → FR β' N fr' a' → a'.defers = a.defers → Q .normal a' w') → wpOpsIn (Fn ro) 0 P ops Q l a w
  | [], its, β, fr, fr', H, H', a, w, hl, _, hS, hf, hr, hK => by
    have : its = [] := List.length_eq_zero_iff.1 (by simpa using hl)
    subst this
    simp only [runI, Option.some.injEq, Prod.mk.injEq] at hr
    obtain ⟨rfl, rfl⟩ := hr
    exact hK β w a hS (Evo.refl β w) hf rfl
  | i :: l, its, β, fr, fr', H, H', a, w, hl, hok, hS, hf, hr, hK => by
    match its, hl with
    | [], hl => simp at hl
    | it :: its, hl =>
      obtain ⟨o, ho, hit⟩ := hok 0 (by simp) (by simp)
      simp only [List.getElem_cons_zero] at ho hit
      have hrest : ∀ (β1 : Nat → Ent) (fr1 : Fr) (H1 : CH) (a1 : Act) (w1 : World), Sim P B β1 H1 w1 → Evo β w β1 w1 → FR β1 N fr1 a1 → a1.defers = a.defers → runI h its fr1 H1 = some (fr', H') → wpOpsIn (Fn ro) 0 P ops Q l a1 w1 := by
        intro β1 fr1 H1 a1 w1 hS1 hE1 hf1 hd1 hr1
        refine items_sound hh l its β1 fr1 fr' H1 H' a1 w1 (by simpa using hl) (fun k h1 h2 => ?_) hS1 hf1 hr1 fun β' w' a' q1 q2 q3 q4 => hK β' w' a' q1 (hE1.trans q2) q3 (q4.trans hd1)
        have := hok (k + 1) (by simpa using h1) (by simpa using h2)
        simpa using this
      simp only [runI] at hr
      simp only [wpOpsIn, ho]
      cases hst : stepI h it fr H with
      | none => rw [hst] at hr; cases hr
      | some r =>
        obtain ⟨fr1, H1⟩ := r
        rw [hst] at hr
        simp only at hr
        cases hw : wantedF fr it.guard with
        | none => simp [stepI, hw] at hst
        | some b =>
          rw [wanted_rel hit hf hw]
          cases b with
          | true =>
            simp only [if_true]
            simp only [stepI, hw] at hst
            exact item_sound hh hit hS hf hw hst fun β1 w1 v1 q1 q2 q3 => hrest β1 fr1 H1 _ w1 q1 q2 q3 (by cases o.dst <;> rfl) hr
          | false =>
            simp only [Bool.false_eq_true, if_false]
            simp only [stepI, hw, Option.some.injEq, Prod.mk.injEq] at hst
            obtain ⟨rfl, rfl⟩ := hst
            refine ⟨fun _ _ => trivial, hrest β _ _ _ w hS (Evo.refl β w) ?_ (by cases o.dst <;> rfl) hr⟩
            rw [← hit.dst]
            exact hf.put (fun x hx => hit.lt x (by rw [← hit.dst]; exact hx)) .skip

theorem least_ex {p : Nat → Prop} (h : ∃ n, p n) : ∃ n, p n ∧ ∀ m, p m → n ≤ m := by
  obtain ⟨n, hn⟩ := h
  induction n using Nat.strongRecOn with
  | _ n ih =>
    by_cases g : ∃ m, m < n ∧ p m
    · obtain ⟨m, h1, h2⟩ := g
      exact ih m h1 h2
    · refine ⟨n, hn, fun m hm => ?_⟩
      by_cases hlt : m < n
      · exact absurd ⟨m, hlt, hm⟩ g
      · omega
noncomputable def leastN {p : Nat → Prop} (h : ∃ n, p n) : Nat := Classical.choose (least_ex h)
theorem leastN_spec {p : Nat → Prop} (h : ∃ n, p n) : p (leastN h) := (Classical.choose_spec (least_ex h)).1
theorem leastN_le {p : Nat → Prop} (h : ∃ n, p n) {m : Nat} (hm : p m) : leastN h ≤ m := (Classical.choose_spec (least_ex h)).2 m hm
theorem code_sound {h : Hd} (hh : HS P B h) {n : Nat} {ro : Option Nat} {N : Nat} {c : Code} {r : RCode} (hok : CodeOk P N c r) : ∀ (β : Nat → Ent) (fr fr' : Fr) (H H' : CH) (a : Act) (w : World) (x : CExit) (Q : Exit → Act → World → Prop),
    Sim P B β H w → FR β N fr a → evR h n r fr H = some (x, fr', H') →
    (∀ β' w' a', Sim P B β' H' w' → Evo β w β' w' → FR β' N fr' a' → a'.defers = a.defers → Q x.toExit a' w') → c.wpIn (Fn ro) 0 P Q a w := by
  induction hok with
  | skip =>
    intro β fr fr' H H' a w x Q hS hf hr hK
    simp only [evR, Option.some.injEq, Prod.mk.injEq] at hr
    obtain ⟨rfl, rfl, rfl⟩ := hr
    exact wpIn_skip (hK β w a hS (Evo.refl β w) hf rfl)
  | label =>
    intro β fr fr' H H' a w x Q hS hf hr hK
    simp only [evR, Option.some.injEq, Prod.mk.injEq] at hr
    obtain ⟨rfl, rfl, rfl⟩ := hr
    exact wpIn_label (hK β w a hS (Evo.refl β w) hf rfl)
  | exit =>
    intro β fr fr' H H' a w x Q hS hf hr hK
    simp only [evR, Option.some.injEq, Prod.mk.injEq] at hr
    obtain ⟨rfl, rfl, rfl⟩ := hr
    exact wpIn_exit (hK β w a hS (Evo.refl β w) hf rfl)
  | ret =>
    intro β fr fr' H H' a w x Q hS hf hr hK
    simp only [evR, Option.some.injEq, Prod.mk.injEq] at hr
    obtain ⟨rfl, rfl, rfl⟩ := hr
    exact wpIn_ret (hK β w a hS (Evo.refl β w) hf rfl)
  | @reg id ops its hl hi =>
    intro β fr fr' H H' a w x Q hS hf hr hK
    simp only [evR] at hr
    cases hrun : runI h its fr H with
    | none => rw [hrun] at hr; cases hr
    | some q =>
      obtain ⟨fr1, H1⟩ := q
      rw [hrun] at hr
      simp only [Option.map_some, Option.some.injEq, Prod.mk.injEq] at hr
      obtain ⟨rfl, rfl, rfl⟩ := hr
      refine wpIn_region (items_sound hh _ its β fr _ H _ a w (by simpa using hl) (fun k h1 h2 => ?_) hS hf hrun hK)
      have hk : k < ops.size := by omega
      exact ⟨ops[k], by simp [hk], hi k h1 hk⟩
  | @drw id ops d hd =>
    intro β fr fr' H H' a w x Q hS hf hr hK
    simp only [evR] at hr
    cases hrun : evD h d fr H with
    | none => rw [hrun] at hr; cases hr
    | some q =>
      obtain ⟨fr1, H1⟩ := q
      rw [hrun] at hr
      simp only [Option.map_some, Option.some.injEq, Prod.mk.injEq] at hr
      obtain ⟨rfl, rfl, rfl⟩ := hr
      exact hd B h ro β fr _ H _ a w id Q hh hS hf hrun hK
  | @seq ca cb ra rb ha hb iha ihb =>
    intro β fr fr' H H' a w x Q hS hf hr hK
    simp only [evR] at hr
    cases hrun : evR h n ra fr H with
    | none => rw [hrun] at hr; cases hr
    | some q =>
      obtain ⟨x1, fr1, H1⟩ := q
      rw [hrun] at hr
      refine wpIn_seq (iha β fr fr1 H H1 a w x1 _ hS hf hrun fun β' w' a' q1 q2 q3 q4 => ?_)
      cases x1 with
      | normal => exact ihb β' fr1 fr' H1 H' a' w' x Q q1 q3 hr fun β2 w2 a2 p1 p2 p3 p4 => hK β2 w2 a2 p1 (q2.trans p2) p3 (p4.trans q4)
      | exit i =>
        simp only [Option.some.injEq, Prod.mk.injEq] at hr
        obtain ⟨rfl, rfl, rfl⟩ := hr
        exact hK β' w' a' q1 q2 q3 q4
      | ret =>
        simp only [Option.some.injEq, Prod.mk.injEq] at hr
        obtain ⟨rfl, rfl, rfl⟩ := hr
        exact hK β' w' a' q1 q2 q3 q4
  | @cond c ca cb ra rb hc ha hb iha ihb =>
    intro β fr fr' H H' a w x Q hS hf hr hK
    simp only [evR] at hr
    have hv := evF_rel hf hc
    split at hr
    · rename_i e
      rw [e] at hv
      exact wpIn_cond_true hv.bool_inv (iha β fr fr' H H' a w x Q hS hf hr hK)
    · rename_i e
      rw [e] at hv
      exact wpIn_cond_false hv.bool_inv (ihb β fr fr' H H' a w x Q hS hf hr hK)
    · cases hr
  | @block id c rc hc ih =>
    intro β fr fr' H H' a w x Q hS hf hr hK
    simp only [evR] at hr
    cases hrun : evR h n rc fr H with
    | none => rw [hrun] at hr; cases hr
    | some q =>
      obtain ⟨x1, fr1, H1⟩ := q
      rw [hrun] at hr
      refine wpIn_block (ih β fr fr1 H H1 a w x1 _ hS hf hrun fun β' w' a' q1 q2 q3 q4 => ?_)
      cases x1 with
      | normal =>
        simp only [Option.some.injEq, Prod.mk.injEq] at hr
        obtain ⟨rfl, rfl, rfl⟩ := hr
        exact hK β' w' a' q1 q2 q3 q4
      | exit i =>
        simp only at hr
        split at hr
        · rename_i e
          simp only [Option.some.injEq, Prod.mk.injEq] at hr
          obtain ⟨rfl, rfl, rfl⟩ := hr
          simp only [CExit.toExit, Exit.inBlock, if_pos e]
          exact hK β' w' a' q1 q2 q3 q4
        · rename_i e
          simp only [Option.some.injEq, Prod.mk.injEq] at hr
          obtain ⟨rfl, rfl, rfl⟩ := hr
          simp only [CExit.toExit, Exit.inBlock, if_neg e]
          exact hK β' w' a' q1 q2 q3 q4
      | ret =>
        simp only [Option.some.injEq, Prod.mk.injEq] at hr
        obtain ⟨rfl, rfl, rfl⟩ := hr
        exact hK β' w' a' q1 q2 q3 q4
  | @loop c rc hc ih =>
    intro β0 fr0 fr' H0 H' a0 w0 x Q hS0 hf0 hr0 hK
    simp only [evR] at hr0
    let Rel : Nat → Act → World → Prop := fun m a w => ∃ β fr H, Sim P B β H w ∧ Evo β0 w0 β w ∧ FR β N fr a ∧ a.defers = a0.defers ∧ loopN m (evR h n rc) fr H = some (x, fr', H')
    classical
    refine wpIn_loop (fun a w => ∃ m, Rel m a w) (fun a w => if g : ∃ m, Rel m a w then leastN g else 0) ⟨n, β0, fr0, H0, hS0, Evo.refl β0 w0, hf0, rfl, hr0⟩ fun a w hI => ?_
    have hfind := leastN_spec hI
    rw [dif_pos hI]
    generalize hm : leastN hI = m at hfind
    obtain ⟨β, fr, H, hS, hE, hf, hd, hr⟩ := hfind
    cases m with
    | zero => simp [loopN] at hr
    | succ m =>
      simp only [loopN] at hr
      cases hrun : evR h n rc fr H with
      | none => rw [hrun] at hr; cases hr
      | some q =>
        obtain ⟨x1, fr1, H1⟩ := q
        rw [hrun] at hr
        refine ih β fr fr1 H H1 a w x1 _ hS hf hrun fun β' w' a' q1 q2 q3 q4 => ?_
        cases x1 with
        | normal =>
          simp only at hr
          have hnew : Rel m a' w' := ⟨β', fr1, H1, q1, hE.trans q2, q3, q4.trans hd, hr⟩
          have hex : ∃ m, Rel m a' w' := ⟨m, hnew⟩
          refine ⟨hex, ?_⟩
          rw [dif_pos hex]
          have := leastN_le hex hnew
          omega
        | exit i =>
          simp only [Option.some.injEq, Prod.mk.injEq] at hr
          obtain ⟨rfl, rfl, rfl⟩ := hr
          exact hK β' w' a' q1 (hE.trans q2) q3 (q4.trans hd)
        | ret =>
          simp only [Option.some.injEq, Prod.mk.injEq] at hr
          obtain ⟨rfl, rfl, rfl⟩ := hr
          exact hK β' w' a' q1 (hE.trans q2) q3 (q4.trans hd)
end Can
end Go.Proofs.Ytmpojphjongdcaa
