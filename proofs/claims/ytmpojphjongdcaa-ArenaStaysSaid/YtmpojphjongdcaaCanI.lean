/- Canonical runs: regions in the text's order, code, functions. Over any program. -/
import Derived.Test.YtmpojphjongdcaaCanH
import Derived.RangeFuncNested
namespace Go.Proofs.Ytmpojphjongdcaa
namespace Can
open Go Go.RowKit
set_option linter.unusedSimpArgs false
set_option linter.unusedVariables false
variable {P : Program} {B : Nat}

def runI (h : Hd) : List Item → Fr → CH → Option (Fr × CH)
  | [], fr, H => some (fr, H)
  | it :: r, fr, H => match stepI h it fr H with
    | some (fr', H') => runI h r fr' H'
    | none => none
/-- A region that draws its order: its operations, in an order that serves; and reads that are done again where another order would do them. -/
structure DReg where
  its : List Item
  chk : List (Item × Nat)
inductive RCode where
  | skip
  | reg (its : List Item)
  | drw (d : DReg)
  | seq (a b : RCode)
  | cond (c : Operand) (a b : RCode)
  | block (id : Nat) (c : RCode)
  | loop (c : RCode)
  | exit (id : Nat)
  | ret
  | rangeF (g : Operand) (key : Nat × Nat)
inductive CExit where
  | normal
  | exit (id : Nat)
  | ret
def CExit.toExit : CExit → Exit
  | .normal => .normal
  | .exit i => .exit i
  | .ret => .ret
abbrev Res := Option (CExit × Fr × CH)
def loopN : Nat → (Fr → CH → Res) → Fr → CH → Res
  | 0, _, _, _ => none
  | n + 1, f, fr, H => match f fr H with
    | some (.normal, fr', H') => loopN n f fr' H'
    | r => r
/-- The items of a region that draws; the memory behind each that writes. -/
def isW : ROp → Bool
  | .w _ | .call _ _ | .callv _ _ => true
  | _ => false
def runD (h : Hd) : List Item → Fr → CH → Option (Fr × CH × List CH)
  | [], fr, H => some (fr, H, [])
  | it :: r, fr, H => match stepI h it fr H with
    | some (fr', H') => (runD h r fr' H').map fun (f, K, l) => (f, K, if isW it.op then H' :: l else l)
    | none => none
/-- A read, done again, reads the same. -/
def Again (fr : Fr) (G : CH) (it : Item) : Prop :=
  wantedF fr it.guard = some false ∨ ∃ x d, it.op = .l x ∧ it.dst = some d ∧ lop G (evF fr) x = some (fr d)
def jumpX : Option (Option Nat) → CExit
  | none => .normal
  | some none => .ret
  | some (some i) => .exit i
open Classical in
noncomputable def evD (h : Hd) (d : DReg) (fr : Fr) (H : CH) : Option (Fr × CH) :=
  match runD h d.its fr H with
  | some (fr', H', l) => if ∀ p ∈ d.chk, ∃ G, (H :: l)[p.2]? = some G ∧ Again fr' G p.1 then some (fr', H') else none
  | none => none
noncomputable def evR (h : Hd) (n : Nat) : RCode → Fr → CH → Res
  | .skip, fr, H => some (.normal, fr, H)
  | .reg its, fr, H => (runI h its fr H).map fun (f, K) => (.normal, f, K)
  | .drw d, fr, H => (evD h d fr H).map fun (f, K) => (.normal, f, K)
  | .seq a b, fr, H => match evR h n a fr H with
    | some (.normal, fr', H') => evR h n b fr' H'
    | r => r
  | .cond c a b, fr, H => match evF fr c with
    | .bool true => evR h n a fr H
    | .bool false => evR h n b fr H
    | _ => none
  | .block id c, fr, H => match evR h n c fr H with
    | some (.exit i, fr', H') => if i = id then some (.normal, fr', H') else some (.exit i, fr', H')
    | r => r
  | .loop c, fr, H => loopN n (evR h n c) fr H
  | .exit id, fr, H => some (.exit id, fr, H)
  | .ret, fr, H => some (.ret, fr, H)
  | .rangeF g key, fr, H => match evF fr g with
    | .func (.func f) _ caps => match h.call f (.func (.yield H.nx) #[] #[] :: caps.toList) (H.new (.loop .ready none fr key)) with
      | some (_, H2) => match H2.ob H.nx with
        | .loop st pend fr' key' => if st = .busy then none else some (jumpX pend, fr, H2.set H.nx (.loop .exhausted pend fr' key'))
        | _ => none
      | none => none
    | _ => none

/-- What a drawn region must be for its canonical form. -/
def DOk (P : Program) (N : Nat) (ops : Array Oper) (d : DReg) : Prop :=
  ∀ (B : Nat) (h : Hd) (ro : Option Nat) (β : Nat → Ent) (fr fr' : Fr) (H H' : CH) (a : Act) (w : World) (id : Nat) (Q : Exit → Act → World → Prop), HS P B h → Sim P B β H w → FR β N fr a → evD h d fr H = some (fr', H') →
    (∀ β' w' a', Sim P B β' H' w' → Evo β w β' w' → FR β' N fr' a' → a'.defers = a.defers → Q .normal a' w') → (Code.region id ops true).wpIn (Fn ro) 0 P Q a w
inductive CodeOk (P : Program) (N : Nat) : Code → RCode → Prop where
  | skip : CodeOk P N .skip .skip
  | label {l : Nat} : CodeOk P N (.label l) .skip
  | reg {id : Nat} {ops : Array Oper} {its : List Item} (hl : its.length = ops.size) (h : ∀ i (h1 : i < its.length) (h2 : i < ops.size), ItemOk P N ops ops[i] its[i]) : CodeOk P N (.region id ops false) (.reg its)
  | drw {id : Nat} {ops : Array Oper} {d : DReg} (h : DOk P N ops d) : CodeOk P N (.region id ops true) (.drw d)
  | seq {a b : Code} {ra rb : RCode} (ha : CodeOk P N a ra) (hb : CodeOk P N b rb) : CodeOk P N (.seq a b) (.seq ra rb)
  | cond {c : Operand} {a b : Code} {ra rb : RCode} (hc : okOpnd c = true) (ha : CodeOk P N a ra) (hb : CodeOk P N b rb) : CodeOk P N (.cond c a b) (.cond c ra rb)
  | block {id : Nat} {c : Code} {rc : RCode} (h : CodeOk P N c rc) : CodeOk P N (.block id c) (.block id rc)
  | loop {c : Code} {rc : RCode} (h : CodeOk P N c rc) : CodeOk P N (.loop c) (.loop rc)
  | exit {id : Nat} : CodeOk P N (.exit id) (.exit id)
  | ret : CodeOk P N .ret .ret
  | rangeF {g : Operand} {ps : Array Tmp} {ca cb : Code} {key : Nat × Nat} (hg : okOpnd g = true) (hk : keyOf P key = some (N, ps, ca, cb)) : CodeOk P N (.rangeFunc g ps ca cb) (.rangeF g key)

/-- The marks of loops over functions among the deferred calls of an activation. -/
def mkD (D : Nat) : Deferred := { target := .collected D, args := #[] }
def DM (B1 : Nat) (β : Nat → Ent) (w : World) (a : Act) : Prop :=
  ∃ ms : List Nat, a.defers = ms.map mkD ∧ ms.Nodup ∧ ∀ D ∈ ms, B1 ≤ D ∧ w.heap[D]? = some (.deferred (some [])) ∧ Out β D
theorem DM.evo {B1 : Nat} {β β' : Nat → Ent} {w w' : World} {a a' : Act} (h : DM B1 β w a) (e : Evo β w β' w') (hd : a'.defers = a.defers) : DM B1 β' w' a' := by
  obtain ⟨ms, h1, h2, h3⟩ := h
  refine ⟨ms, hd.trans h1, h2, fun D hD => ?_⟩
  obtain ⟨g1, g2, g3⟩ := h3 D hD
  obtain ⟨k1, k2⟩ := e.keep D (Array.getElem?_eq_some_iff.1 g2).1 g3
  exact ⟨g1, k1.trans g2, k2⟩
theorem DM.none {B1 : Nat} {β : Nat → Ent} {w : World} {a : Act} (h : a.defers = []) : DM B1 β w a := ⟨[], h, List.nodup_nil, fun D hD => by cases hD⟩
def RoOk (β : Nat → Ent) (ro : Option Nat) : Prop := ∀ b, ro = some b → ∃ l, β l = .loop b
theorem RoOk.evo {β β' : Nat → Ent} {ro : Option Nat} (h : RoOk β ro) (e : EntExt β β') : RoOk β' ro := fun b hb => by
  obtain ⟨l, hl⟩ := h b hb
  rcases e l with g | g | ⟨_, _, _, _, g, _⟩
  · exact ⟨l, g.trans hl⟩
  · rw [hl] at g; cases g
  · rw [hl] at g; cases g
theorem Sim.loop {β : Nat → Ent} {H : CH} {w : World} (h : Sim P B β H w) {l b : Nat} (hl : β l = .loop b) : ∃ st pend fr key, H.ob l = .loop st pend fr key ∧ B ≤ b ∧ LoopRel P β w b st pend fr key := by
  have h1 := h.ent l
  rw [hl] at h1
  cases ho : H.ob l with
  | loop st pend fr key => rw [ho] at h1; exact ⟨_, _, _, _, rfl, h1.1, h1.2⟩
  | _ => rw [ho] at h1; exact h1.elim
theorem Sim.loopOf {β : Nat → Ent} {H : CH} {w : World} (h : Sim P B β H w) {l : Nat} {st : LoopState} {pend : Option (Option Nat)} {fr : Nat → Value} {key : Nat × Nat} (ho : H.ob l = .loop st pend fr key) : ∃ b, β l = .loop b ∧ B ≤ b ∧ LoopRel P β w b st pend fr key := by
  have h1 := h.ent l
  rw [ho] at h1
  cases hb : β l with
  | loop b => rw [hb] at h1; exact ⟨b, rfl, h1.1, h1.2⟩
  | _ => rw [hb] at h1; exact h1.elim
/-- New blocks of others do not matter. -/
theorem Sim.push0 {β : Nat → Ent} {H : CH} {w : World} (h : Sim P B β H w) (o : Obj) : Sim P B β H (w.alloc o) ∧ Evo β w β (w.alloc o) := by
  have hold : ∀ b, b < w.heap.size → (w.alloc o).heap[b]? = w.heap[b]? := fun b hb => by
    show (w.heap.push o)[b]? = _
    rw [Array.getElem?_push, if_neg (by omega)]
  exact ⟨⟨fun l => (h.ent l).mono (EntExt.refl β) fun b hb => hold b (at_lt h hb), h.nx, h.inj, by simpa using Nat.le_succ_of_le h.base⟩, ⟨rfl, rfl, rfl, by simp, fun b hb ho => ⟨hold b hb, ho⟩, EntExt.refl β⟩⟩
/-- A loop's record gets a name. -/
theorem Sim.newLoop {β : Nat → Ent} {H : CH} {w : World} (h : Sim P B β H w) {r : Loop} {N : Nat} {fr : Nat → Value} {key : Nat × Nat} (h1 : r.state = .ready) (h2 : r.pending = none) (h3 : keyOf P key = some (N, r.params, r.assign, r.body)) (h4 : N ≤ r.tmps.size) (h5 : ∀ t, VR β (fr t) (r.tmps.getD t undef)) :
    Sim P B (upd β H.nx (.loop w.heap.size)) (H.new (.loop .ready none fr key)) (w.alloc (.loop r)) ∧ Evo β w (upd β H.nx (.loop w.heap.size)) (w.alloc (.loop r)) := by
  have hun := h.unborn
  have hext : EntExt β (upd β H.nx (.loop w.heap.size)) := fun l => by
    by_cases hl : l = H.nx
    · subst hl; exact .inr (.inl hun)
    · exact .inl (upd_other hl)
  have hold : ∀ b, b < w.heap.size → (w.alloc (.loop r)).heap[b]? = w.heap[b]? := fun b hb => by
    show (w.heap.push _)[b]? = _
    rw [Array.getElem?_push, if_neg (by omega)]
  have hnew := World.alloc_heap_new w (.loop r)
  refine ⟨⟨fun l => ?_, fun l hl => ?_, fun l l' b ho ho' => ?_, by simpa using Nat.le_succ_of_le h.base⟩, ⟨rfl, rfl, rfl, by simp, fun b hb hout => ⟨hold b hb, fun l ho => ?_⟩, hext⟩⟩
  · by_cases hl' : l = H.nx
    · subst hl'
      simp only [upd_same, CH.new, if_true]
      exact ⟨h.base, r, N, hnew, h1, by rw [h2]; rfl, h3, h4, fun t => (h5 t).mono hext⟩
    · simp only [upd_other hl', CH.new, if_neg hl']
      exact (h.ent l).mono hext fun b hb => hold b (at_lt h hb)
  · have : l ≠ H.nx := by simp [CH.new] at hl; omega
    simp only [CH.new, if_neg this]
    exact h.nx l (by simp [CH.new] at hl; omega)
  · by_cases e1 : l = H.nx <;> by_cases e2 : l' = H.nx
    · rw [e1, e2]
    · subst e1
      rw [upd_same] at ho
      rw [upd_other e2] at ho'
      have := (owns_ge h ho').2
      have : w.heap.size = b := ho; omega
    · subst e2
      rw [upd_same] at ho'
      rw [upd_other e1] at ho
      have := (owns_ge h ho).2
      have : w.heap.size = b := ho'; omega
    · rw [upd_other e1] at ho
      rw [upd_other e2] at ho'
      exact h.inj _ _ b ho ho'
  · by_cases e1 : l = H.nx
    · subst e1
      rw [upd_same] at ho
      have : w.heap.size = b := ho; omega
    · rw [upd_other e1] at ho
      exact hout l ho
/-- A loop's record turns. -/
theorem Sim.setLoop {β : Nat → Ent} {H : CH} {w : World} (h : Sim P B β H w) {l b : Nat} (hl : β l = .loop b) {st : LoopState} {pend : Option (Option Nat)} {fr : Nat → Value} {key : Nat × Nat} {r : Loop} {N : Nat} (h1 : r.state = st) (h2 : r.pending = pend.map pendC) (h3 : keyOf P key = some (N, r.params, r.assign, r.body))
    (h4 : N ≤ r.tmps.size) (h5 : ∀ t, VR β (fr t) (r.tmps.getD t undef)) : Sim P B β (H.set l (.loop st pend fr key)) (w.putObj b (.loop r)) ∧ Evo β w β (w.putObj b (.loop r)) := by
  have hlt := loop_lt h hl
  have hge : B ≤ b := (owns_ge h (l := l) (b := b) (by rw [hl]; rfl)).1
  have hother : ∀ k, k ≠ b → (w.putObj b (.loop r)).heap[k]? = w.heap[k]? := fun k hk => World.putObj_heap_other hk
  refine ⟨⟨fun l' => ?_, fun l' hl' => ?_, h.inj, by simpa using h.base⟩, ⟨rfl, rfl, rfl, by simp, fun k hk hout => ⟨hother k ?_, hout⟩, EntExt.refl β⟩⟩
  · by_cases e : l' = l
    · subst e
      simp only [CH.set, if_true, hl]
      exact ⟨hge, r, N, World.putObj_heap_same hlt, h1, h2, h3, h4, h5⟩
    · simp only [CH.set, if_neg e]
      refine (h.ent l').mono (EntExt.refl β) fun k hk => hother k ?_
      rintro rfl
      obtain ⟨_, _, _, _, _, _, q⟩ := h.loop hl
      obtain ⟨r0, _, q1, _⟩ := q
      rcases hk with ⟨sz, n, kd, hk⟩ | hk | hk
      · obtain ⟨cs, e, _, cs', e', frz, p1, _⟩ := h.live hk
        rw [q1] at p1; cases p1
      · have := h.ent l'
        rw [hk] at this
        cases ho : H.ob l' with
        | map es c => rw [ho] at this; obtain ⟨_, es', p1, _⟩ := this; rw [q1] at p1; cases p1
        | _ => rw [ho] at this; exact this.elim
      · exact e (h.inj _ _ k (by rw [hk]; rfl) (by rw [hl]; rfl))
  · have : l' ≠ l := fun e => by
      subst e
      obtain ⟨_, _, _, _, ho, _⟩ := h.loop hl
      rw [h.nx _ hl'] at ho; cases ho
    simp only [CH.set, if_neg this]
    exact h.nx _ hl'
  · rintro rfl
    exact hout l (by rw [hl]; rfl)
theorem execRange {g : Operand} {a : Act} {f : FuncId} {caps : Array Value} (hg : a.eval g = .func (.func f) #[] caps) (hc : callable P f = true) (l : Nat) (w : World) :
    (resolve a.eval (rangeCall g l) 0).run P w = .ok { target := .fn (.func f) caps, args := #[.func (.yield l) #[] #[]] } w ∧
    (invoke (.fn (.func f) caps) #[.func (.yield l) #[] #[]]).run P w = .ok (.enter f (#[.func (.yield l) #[] #[]] ++ caps)) w := by
  refine ⟨?_, ?_⟩
  · simp only [resolve, rangeCall, hg, Deferred.ofValue, List.map_toArray, List.map_cons, List.map_nil, Array.empty_append]
    rfl
  · simp only [invoke]
    exact run_callFunc hc _ _

theorem items_sound {h : Hd} (hh : HS P B h) {ro : Option Nat} {N : Nat} {ops : Array Oper} {Q : Exit → Act → World → Prop} : ∀ (l : List Nat) (its : List Item) (β : Nat → Ent) (fr fr' : Fr) (H H' : CH) (a : Act) (w : World),
    its.length = l.length → (∀ k (h1 : k < its.length) (h2 : k < l.length), ∃ o, ops[l[k]]? = some o ∧ ItemOk P N ops o its[k]) → Sim P B β H w → FR β N fr a → runI h its fr H = some (fr', H') →
    (∀ β' w' a', Sim P B β' H' w' → Evo β w β' w' → FR β' N fr' a' → a'.defers = a.defers → Q .normal a' w') → wpOpsIn (Fn ro) 0 P ops Q l a w
  | [], its, β, fr, fr', H, H', a, w, hl, _, hS, hf, hr, hK => by
    have : its = [] := List.length_eq_zero_iff.1 (by simpa using hl)
    subst this
    simp only [runI, Option.some.injEq, Prod.mk.injEq] at hr
    obtain ⟨rfl, rfl⟩ := hr
    exact hK β w a hS (Evo.refl β w) hf rfl
  | i :: l, its, β, fr, fr', H, H', a, w, hl, hok, hS, hf, hr, hK => by
    match its, hl with
    | [], hl => simp at hl
    | it :: its, hl =>
      obtain ⟨o, ho, hit⟩ := hok 0 (by simp) (by simp)
      simp only [List.getElem_cons_zero] at ho hit
      have hrest : ∀ (β1 : Nat → Ent) (fr1 : Fr) (H1 : CH) (a1 : Act) (w1 : World), Sim P B β1 H1 w1 → Evo β w β1 w1 → FR β1 N fr1 a1 → a1.defers = a.defers → runI h its fr1 H1 = some (fr', H') → wpOpsIn (Fn ro) 0 P ops Q l a1 w1 := by
        intro β1 fr1 H1 a1 w1 hS1 hE1 hf1 hd1 hr1
        refine items_sound hh l its β1 fr1 fr' H1 H' a1 w1 (by simpa using hl) (fun k h1 h2 => ?_) hS1 hf1 hr1 fun β' w' a' q1 q2 q3 q4 => hK β' w' a' q1 (hE1.trans q2) q3 (q4.trans hd1)
        have := hok (k + 1) (by simpa using h1) (by simpa using h2)
        simpa using this
      simp only [runI] at hr
      simp only [wpOpsIn, ho]
      cases hst : stepI h it fr H with
      | none => rw [hst] at hr; cases hr
      | some r =>
        obtain ⟨fr1, H1⟩ := r
        rw [hst] at hr
        simp only at hr
        cases hw : wantedF fr it.guard with
        | none => simp [stepI, hw] at hst
        | some b =>
          rw [wanted_rel hit hf hw]
          cases b with
          | true =>
            simp only [if_true]
            simp only [stepI, hw] at hst
            exact item_sound hh hit hS hf hw hst fun β1 w1 v1 q1 q2 q3 => hrest β1 fr1 H1 _ w1 q1 q2 q3 (by cases o.dst <;> rfl) hr
          | false =>
            simp only [Bool.false_eq_true, if_false]
            simp only [stepI, hw, Option.some.injEq, Prod.mk.injEq] at hst
            obtain ⟨rfl, rfl⟩ := hst
            refine ⟨fun _ _ => trivial, hrest β _ _ _ w hS (Evo.refl β w) ?_ (by cases o.dst <;> rfl) hr⟩
            rw [← hit.dst]
            exact hf.put (fun x hx => hit.lt x (by rw [← hit.dst]; exact hx)) .skip

theorem least_ex {p : Nat → Prop} (h : ∃ n, p n) : ∃ n, p n ∧ ∀ m, p m → n ≤ m := by
  obtain ⟨n, hn⟩ := h
  induction n using Nat.strongRecOn with
  | _ n ih =>
    by_cases g : ∃ m, m < n ∧ p m
    · obtain ⟨m, h1, h2⟩ := g
      exact ih m h1 h2
    · refine ⟨n, hn, fun m hm => ?_⟩
      by_cases hlt : m < n
      · exact absurd ⟨m, hlt, hm⟩ g
      · omega
noncomputable def leastN {p : Nat → Prop} (h : ∃ n, p n) : Nat := Classical.choose (least_ex h)
theorem leastN_spec {p : Nat → Prop} (h : ∃ n, p n) : p (leastN h) := (Classical.choose_spec (least_ex h)).1
theorem leastN_le {p : Nat → Prop} (h : ∃ n, p n) {m : Nat} (hm : p m) : leastN h ≤ m := (Classical.choose_spec (least_ex h)).2 m hm
theorem code_sound {h : Hd} (hh : HS P B h) {n : Nat} {ro : Option Nat} {N B1 : Nat} {c : Code} {r : RCode} (hok : CodeOk P N c r) : ∀ (β : Nat → Ent) (fr fr' : Fr) (H H' : CH) (a : Act) (w : World) (x : CExit) (Q : Exit → Act → World → Prop),
    Sim P B β H w → FR β N fr a → RoOk β ro → DM B1 β w a → B1 ≤ w.heap.size → evR h n r fr H = some (x, fr', H') →
    (∀ β' w' a', Sim P B β' H' w' → Evo β w β' w' → FR β' N fr' a' → DM B1 β' w' a' → Q x.toExit a' w') → c.wpIn (Fn ro) 0 P Q a w := by
  induction hok with
  | skip =>
    intro β fr fr' H H' a w x Q hS hf hro hdm hB hr hK
    simp only [evR, Option.some.injEq, Prod.mk.injEq] at hr
    obtain ⟨rfl, rfl, rfl⟩ := hr
    exact wpIn_skip (hK β w a hS (Evo.refl β w) hf hdm)
  | label =>
    intro β fr fr' H H' a w x Q hS hf hro hdm hB hr hK
    simp only [evR, Option.some.injEq, Prod.mk.injEq] at hr
    obtain ⟨rfl, rfl, rfl⟩ := hr
    exact wpIn_label (hK β w a hS (Evo.refl β w) hf hdm)
  | exit =>
    intro β fr fr' H H' a w x Q hS hf hro hdm hB hr hK
    simp only [evR, Option.some.injEq, Prod.mk.injEq] at hr
    obtain ⟨rfl, rfl, rfl⟩ := hr
    exact wpIn_exit (hK β w a hS (Evo.refl β w) hf hdm)
  | ret =>
    intro β fr fr' H H' a w x Q hS hf hro hdm hB hr hK
    simp only [evR, Option.some.injEq, Prod.mk.injEq] at hr
    obtain ⟨rfl, rfl, rfl⟩ := hr
    exact wpIn_ret (hK β w a hS (Evo.refl β w) hf hdm)
  | @reg id ops its hl hi =>
    intro β fr fr' H H' a w x Q hS hf hro hdm hB hr hK
    simp only [evR] at hr
    cases hrun : runI h its fr H with
    | none => rw [hrun] at hr; cases hr
    | some q =>
      obtain ⟨fr1, H1⟩ := q
      rw [hrun] at hr
      simp only [Option.map_some, Option.some.injEq, Prod.mk.injEq] at hr
      obtain ⟨rfl, rfl, rfl⟩ := hr
      refine wpIn_region (items_sound hh _ its β fr _ H _ a w (by simpa using hl) (fun k h1 h2 => ?_) hS hf hrun fun β' w' a' q1 q2 q3 q4 => hK β' w' a' q1 q2 q3 (hdm.evo q2 q4))
      have hk : k < ops.size := by omega
      exact ⟨ops[k], by simp [hk], hi k h1 hk⟩
  | @drw id ops d hd =>
    intro β fr fr' H H' a w x Q hS hf hro hdm hB hr hK
    simp only [evR] at hr
    cases hrun : evD h d fr H with
    | none => rw [hrun] at hr; cases hr
    | some q =>
      obtain ⟨fr1, H1⟩ := q
      rw [hrun] at hr
      simp only [Option.map_some, Option.some.injEq, Prod.mk.injEq] at hr
      obtain ⟨rfl, rfl, rfl⟩ := hr
      exact hd B h ro β fr _ H _ a w id Q hh hS hf hrun fun β' w' a' q1 q2 q3 q4 => hK β' w' a' q1 q2 q3 (hdm.evo q2 q4)
  | @seq ca cb ra rb ha hb iha ihb =>
    intro β fr fr' H H' a w x Q hS hf hro hdm hB hr hK
    simp only [evR] at hr
    cases hrun : evR h n ra fr H with
    | none => rw [hrun] at hr; cases hr
    | some q =>
      obtain ⟨x1, fr1, H1⟩ := q
      rw [hrun] at hr
      refine wpIn_seq (iha β fr fr1 H H1 a w x1 _ hS hf hro hdm hB hrun fun β' w' a' q1 q2 q3 q4 => ?_)
      cases x1 with
      | normal => exact ihb β' fr1 fr' H1 H' a' w' x Q q1 q3 (hro.evo q2.ext) q4 (Nat.le_trans hB q2.size) hr fun β2 w2 a2 p1 p2 p3 p4 => hK β2 w2 a2 p1 (q2.trans p2) p3 p4
      | exit i =>
        simp only [Option.some.injEq, Prod.mk.injEq] at hr
        obtain ⟨rfl, rfl, rfl⟩ := hr
        exact hK β' w' a' q1 q2 q3 q4
      | ret =>
        simp only [Option.some.injEq, Prod.mk.injEq] at hr
        obtain ⟨rfl, rfl, rfl⟩ := hr
        exact hK β' w' a' q1 q2 q3 q4
  | @cond c ca cb ra rb hc ha hb iha ihb =>
    intro β fr fr' H H' a w x Q hS hf hro hdm hB hr hK
    simp only [evR] at hr
    have hv := evF_rel hf hc
    split at hr
    · rename_i e
      rw [e] at hv
      exact wpIn_cond_true hv.bool_inv (iha β fr fr' H H' a w x Q hS hf hro hdm hB hr hK)
    · rename_i e
      rw [e] at hv
      exact wpIn_cond_false hv.bool_inv (ihb β fr fr' H H' a w x Q hS hf hro hdm hB hr hK)
    · cases hr
  | @block id c rc hc ih =>
    intro β fr fr' H H' a w x Q hS hf hro hdm hB hr hK
    simp only [evR] at hr
    cases hrun : evR h n rc fr H with
    | none => rw [hrun] at hr; cases hr
    | some q =>
      obtain ⟨x1, fr1, H1⟩ := q
      rw [hrun] at hr
      refine wpIn_block (ih β fr fr1 H H1 a w x1 _ hS hf hro hdm hB hrun fun β' w' a' q1 q2 q3 q4 => ?_)
      cases x1 with
      | normal =>
        simp only [Option.some.injEq, Prod.mk.injEq] at hr
        obtain ⟨rfl, rfl, rfl⟩ := hr
        exact hK β' w' a' q1 q2 q3 q4
      | exit i =>
        simp only at hr
        split at hr
        · rename_i e
          simp only [Option.some.injEq, Prod.mk.injEq] at hr
          obtain ⟨rfl, rfl, rfl⟩ := hr
          simp only [CExit.toExit, Exit.inBlock, if_pos e]
          exact hK β' w' a' q1 q2 q3 q4
        · rename_i e
          simp only [Option.some.injEq, Prod.mk.injEq] at hr
          obtain ⟨rfl, rfl, rfl⟩ := hr
          simp only [CExit.toExit, Exit.inBlock, if_neg e]
          exact hK β' w' a' q1 q2 q3 q4
      | ret =>
        simp only [Option.some.injEq, Prod.mk.injEq] at hr
        obtain ⟨rfl, rfl, rfl⟩ := hr
        exact hK β' w' a' q1 q2 q3 q4
  | @loop c rc hc ih =>
    intro β0 fr0 fr' H0 H' a0 w0 x Q hS0 hf0 hro hdm hB hr0 hK
    simp only [evR] at hr0
    let Rel : Nat → Act → World → Prop := fun m a w => ∃ β fr H, Sim P B β H w ∧ Evo β0 w0 β w ∧ FR β N fr a ∧ DM B1 β w a ∧ loopN m (evR h n rc) fr H = some (x, fr', H')
    classical
    refine wpIn_loop (fun a w => ∃ m, Rel m a w) (fun a w => if g : ∃ m, Rel m a w then leastN g else 0) ⟨n, β0, fr0, H0, hS0, Evo.refl β0 w0, hf0, hdm, hr0⟩ fun a w hI => ?_
    have hfind := leastN_spec hI
    rw [dif_pos hI]
    generalize hm : leastN hI = m at hfind
    obtain ⟨β, fr, H, hS, hE, hf, hd, hr⟩ := hfind
    cases m with
    | zero => simp [loopN] at hr
    | succ m =>
      simp only [loopN] at hr
      cases hrun : evR h n rc fr H with
      | none => rw [hrun] at hr; cases hr
      | some q =>
        obtain ⟨x1, fr1, H1⟩ := q
        rw [hrun] at hr
        refine ih β fr fr1 H H1 a w x1 _ hS hf (hro.evo hE.ext) hd (Nat.le_trans hB hE.size) hrun fun β' w' a' q1 q2 q3 q4 => ?_
        cases x1 with
        | normal =>
          simp only at hr
          have hnew : Rel m a' w' := ⟨β', fr1, H1, q1, hE.trans q2, q3, q4, hr⟩
          have hex : ∃ m, Rel m a' w' := ⟨m, hnew⟩
          refine ⟨hex, ?_⟩
          rw [dif_pos hex]
          have := leastN_le hex hnew
          omega
        | exit i =>
          simp only [Option.some.injEq, Prod.mk.injEq] at hr
          obtain ⟨rfl, rfl, rfl⟩ := hr
          exact hK β' w' a' q1 (hE.trans q2) q3 q4
        | ret =>
          simp only [Option.some.injEq, Prod.mk.injEq] at hr
          obtain ⟨rfl, rfl, rfl⟩ := hr
          exact hK β' w' a' q1 (hE.trans q2) q3 q4
  | @rangeF g ps ca cb key hg hk =>
    intro β fr fr' H H' a w x Q hS hf hro hdm hB hr hK
    simp only [evR] at hr
    split at hr
    · rename_i f fst caps hgv
      split at hr
      · rename_i v2 H2 hcall
        obtain ⟨hc, hsound⟩ := hh.1 _ _ _ _ _ hcall
        obtain ⟨caps', hg', hsz, hcaps⟩ : ∃ caps', a.eval g = .func (.func f) #[] caps' ∧ caps.size = caps'.size ∧ ∀ i (h1 : i < caps.size) (h2 : i < caps'.size), VR β caps[i] caps'[i] := by
          have := evF_rel hf hg
          rw [hgv] at this
          generalize a.eval g = q at this
          cases this with
          | fn _ h hi => exact ⟨_, rfl, h, hi⟩
        split at hr
        · rename_i st pend fr2 key2 ho2
          split at hr
          · cases hr
          · rename_i hst
            simp only [Option.some.injEq, Prod.mk.injEq] at hr
            obtain ⟨rfl, rfl, rfl⟩ := hr
            -- the record is laid
            have enter : ∀ fn : FuncId, ∃ (l : Nat) (mark : List Deferred) (w₁ : World), (Instr.enterLoop fn a.tmps ps ca cb ro).run P w = .ok (l, mark) w₁ ∧ Sim P B (upd β H.nx (.loop l)) (H.new (.loop .ready none fr key)) w₁ ∧ Evo β w (upd β H.nx (.loop l)) w₁ ∧
                ∀ a' : Act, a'.defers = mark ++ a.defers → DM B1 (upd β H.nx (.loop l)) w₁ a' := by
              intro fn
              cases hroo : ro with
              | none =>
                obtain ⟨s1, e1⟩ := hS.push0 (.deferred (some []))
                obtain ⟨s2, e2⟩ := s1.newLoop (r := { state := .ready, pending := none, fn, tmps := a.tmps, params := ps, assign := ca, body := cb, defers := w.heap.size }) (N := N) (fr := fr) (key := key) rfl rfl hk hf.1 hf.2
                have hs : (w.alloc (.deferred (some []))).heap.size = w.heap.size + 1 := by simp
                rw [hs] at s2 e2
                refine ⟨_, _, _, run_enterLoop_outer fn a.tmps ps ca cb, s2, e1.trans e2, fun a' ha' => ?_⟩
                obtain ⟨ms, m1, m2, m3⟩ := hdm
                refine ⟨w.heap.size :: ms, by rw [ha', m1]; rfl, List.nodup_cons.2 ⟨fun hm => ?_, m2⟩, fun D hD => ?_⟩
                · have := (Array.getElem?_eq_some_iff.1 (m3 _ hm).2.1).1; omega
                · rcases List.mem_cons.1 hD with rfl | hD
                  · refine ⟨hB, ?_, fun l ho => ?_⟩
                    · have hn := World.alloc_heap_new w (.deferred (some []))
                      rw [← hn]
                      exact Below.heap_alloc _ _ _ (by simp)
                    · by_cases hl : l = H.nx
                      · subst hl
                        rw [upd_same] at ho
                        have : w.heap.size + 1 = w.heap.size := ho; omega
                      · rw [upd_other hl] at ho
                        have := (owns_ge hS ho).2; omega
                  · obtain ⟨g1, g2, g3⟩ := m3 D hD
                    obtain ⟨k1, k2⟩ := (e1.trans e2).keep D (Array.getElem?_eq_some_iff.1 g2).1 g3
                    exact ⟨g1, k1.trans g2, k2⟩
              | some b0 =>
                obtain ⟨l0, hl0⟩ := hro b0 hroo
                obtain ⟨_, _, _, _, _, _, r0, _, hr0, _⟩ := hS.loop hl0
                obtain ⟨s2, e2⟩ := hS.newLoop (r := { state := .ready, pending := none, fn, tmps := a.tmps, params := ps, assign := ca, body := cb, defers := r0.defers }) (N := N) (fr := fr) (key := key) rfl rfl hk hf.1 hf.2
                exact ⟨_, _, _, run_enterLoop_inner hr0 fn a.tmps ps ca cb, s2, e2, fun a' ha' => hdm.evo e2 (by simpa using ha')⟩
            refine wpIn_rangeFunc fun fn _ => ?_
            obtain ⟨l, mark, w₁, hen, s1, e1, hdm1⟩ := enter fn
            obtain ⟨x1, x2⟩ := execRange hg' hc l w₁
            refine ⟨l, mark, w₁, _, w₁, f, _, w₁, hen, x1, fun _ _ => trivial, x2, fun h => absurd h (by simp [Fn, Fence.wide]), callsIn_Fn ?_⟩
            have hargs : VRs (upd β H.nx (.loop l)) (.func (.yield H.nx) #[] #[] :: caps.toList) (.func (.yield l) #[] #[] :: caps'.toList) :=
              VRs.cons (.yld upd_same) ((VRs.arr.2 ⟨hsz, hcaps⟩).mono e1.ext)
            have := hsound _ w₁ _ s1 hargs
            have e2 : (Value.func (.yield l) #[] #[] :: caps'.toList).toArray = #[.func (.yield l) #[] #[]] ++ caps' := by apply Array.ext'; simp
            rw [e2] at this
            refine this.mono ?_
            rintro e w3 ⟨v', β3, rfl, g1, g2, g3⟩
            have hl3 : β3 H.nx = .loop l := by
              rcases g3.ext H.nx with q | q | ⟨_, _, _, _, q, _⟩
              · rw [q, upd_same]
              · rw [upd_same] at q; cases q
              · rw [upd_same] at q; cases q
            obtain ⟨st3, pend3, fr3, key3, ho3, _, r3, N3, p1, p2, p3, p4, p5, p6⟩ := g2.loop hl3
            rw [ho2] at ho3
            cases ho3
            have hend := run_endLoop (P := P) p1 (by rw [p2]; exact hst)
            obtain ⟨s4, e4⟩ := g2.setLoop hl3 (st := .exhausted) (pend := pend) (fr := fr2) (key := key2) (r := { r3 with state := .exhausted }) (N := N3) rfl p3 p4 p5 p6
            generalize w3.putObj l (.loop { r3 with state := .exhausted }) = w4 at hend s4 e4
            have hfin : Q (jumpX pend).toExit { a with defers := mark ++ a.defers } w4 :=
              hK _ _ _ s4 (e1.trans (g3.trans e4)) (FR.mono (a := { a with defers := mark ++ a.defers }) hf ((e1.trans (g3.trans e4)).ext)) ((hdm1 { a with defers := mark ++ a.defers } rfl).evo (g3.trans e4) rfl)
            refine ⟨r3.pending, _, hend, ?_⟩
            rw [p3]
            cases pend with
            | none => exact hfin
            | some j =>
              cases j with
              | none => exact wpIn_ret hfin
              | some i => exact wpIn_exit hfin
        · cases hr
      · cases hr
    · cases hr
end Can
end Go.Proofs.Ytmpojphjongdcaa
