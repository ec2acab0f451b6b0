/- Canonical runs: a function that defers a closure and is saved by it. Over any program. Canonical runs: calls that touch no memory of others (by evaluation, or by a run in an empty memory) as rules of a table. Over any program. Canonical runs: a table with functions of which it is told what they do. Over any program. Canonical runs: what a call answers in a memory of one row, it answers in every memory with that row. Over any program. Runs over trees: rows as pure lists. Values, and what they stand for in a canonical memory. Over any program. Runs over trees: pure operations and reads. Over any program. -/
import Derived.Test.YtnankhlanilbbaaGreatZc
section
namespace Go.Proofs.YtnankhlanilbbaaGreat
namespace Can
open Go Go.RowKit
set_option linter.unusedSimpArgs false
set_option linter.unusedVariables false
variable {P : Program} {B : Nat} {T : Tbl} {X : Pan}
def CallC (P : Program) (B : Nat) (f : FuncId) (args : List Value) (H : CH) (v : Value) (H' : CH) : Prop := callable P f = true ∧ ∀ β w (args' : List Value), Sim P B β H w → VRs β args args' →
  CallsIn Fence.wide 0 P f args'.toArray w fun e w' => ∃ v' β', e = .returned v' ∧ VR β' v v' ∧ Sim P B β' H' w' ∧ Evo β w β' w'
theorem leaves_marksD {fn : Func} {tmps : Array Value} {R : Ending → World → Prop} {B1 : Nat} {β0 β : Nat → Ent} {w0 : World} {H : CH} {u : FrameMode} (hu : u ≠ .run) {D0 : List Deferred} : ∀ (ms : List Nat) (w : World), Sim P B β H w → Evo β0 w0 β w → w0.heap.size ≤ B1 → ms.Nodup → (∀ D ∈ ms, B1 ≤ D ∧ w.heap[D]? = some (.deferred (some []))) →
    (∀ w', Sim P B β H w' → Evo β0 w0 β w' → LeavesInM Fence.wide 0 P fn tmps R D0 u w') → LeavesInM Fence.wide 0 P fn tmps R (ms.map mkD ++ D0) u w
  | [], w, hS, hE, hB, hn, hm, hK => hK w hS hE
  | D :: ms, w, hS, hE, hB, hn, hm, hK => by
    obtain ⟨h1, h2⟩ := hm D (List.mem_cons_self ..)
    have hlt := (Array.getElem?_eq_some_iff.1 h2).1
    refine ⟨hu, .inl ⟨D, w.putObj D (.deferred none), rfl, run_takeDeferred h2, ?_⟩⟩
    refine leaves_marksD hu ms _ (hS.putOther (o' := .deferred none) h2 ⟨fun _ _ _ => by simp, fun _ _ => by simp, fun _ => by simp, fun _ _ => by simp, fun _ _ _ _ => by simp⟩) ?_ hB (List.nodup_cons.1 hn).2 (fun D' hD' => ?_) hK
    · exact ⟨hE.os, hE.tape, hE.output, by simpa using hE.size, fun b hb ho => by
        obtain ⟨k1, k2⟩ := hE.keep b hb ho
        exact ⟨(World.putObj_heap_other (by omega)).trans k1, k2⟩, hE.ext⟩
    · obtain ⟨g1, g2⟩ := hm D' (List.mem_cons_of_mem _ hD')
      refine ⟨g1, (World.putObj_heap_other ?_).trans g2⟩
      rintro rfl
      exact (List.nodup_cons.1 hn).1 hD'
def GdRet (P : Program) (g : FuncId) (n : Nat) : Prop := ∀ (args : List Value) (w : World), args.length = n → CallsDIn Fence.wide 0 P g args.toArray .returning w fun e u' w' => (∃ x, e = .returned x) ∧ u' = .returning ∧ w' = w
def GdPan (P : Program) (B : Nat) (g : FuncId) (G : List Value → Value → CH → CH → Prop) : Prop := ∀ β w (args args' : List Value) (v v' : Value) (H H' : CH), Sim P B β H w → VRs β args args' → VR β v v' → G args v H H' →
  CallsDIn Fence.wide 0 P g args'.toArray (.panicking [{ v := v', recovered := false }]) w fun e u' w' => ∃ x β', e = .returned x ∧ u' = .panicking [{ v := v', recovered := true }] ∧ Sim P B β' H' w' ∧ Evo β w β' w'
def mskF (c : RCode) (fr : Fr) : Fr := fun t => if (wrR c).elem t then undef else fr t
theorem mskF_rel {β : Nat → Ent} {c : RCode} {fr : Fr} {a : Act} (h : ∀ t, t ∉ wrR c → VR β (fr t) (a.tmps.getD t undef)) : FR β 0 (mskF c fr) a := by
  refine ⟨Nat.zero_le _, fun t => ?_⟩
  unfold mskF
  split
  · exact .undef _
  · rename_i ht
    exact h t fun hm => ht (List.elem_eq_true_of_mem hm)
theorem reg_sound {h : Hd} (hh : HS P B h) {ro : Option Nat} {N : Nat} {c : Code} {its : List Item} (hok : CodeOk P N c (.reg its)) {β : Nat → Ent} {fr fr' : Fr} {H H' : CH} {a : Act} {w : World} {Q : Exit → Act → World → Prop}
    (hS : Sim P B β H w) (hf : FR β N fr a) (hr : runI h its fr H = some (fr', H')) (hK : ∀ β' w' a', Sim P B β' H' w' → Evo β w β' w' → FR β' N fr' a' → a'.defers = a.defers → Q .normal a' w') : c.wpIn (Fn ro) 0 P Q a w := by
  generalize hg : RCode.reg its = r at hok
  induction hok generalizing Q with
  | @reg id ops its' hl hi =>
    cases hg
    refine wpIn_region (items_sound hh _ its β fr fr' H H' a w (by simpa using hl) (fun j h1 h2 => ?_) hS hf hr hK)
    have hj : j < ops.size := by omega
    exact ⟨ops[j], by simp [hj], hi j h1 hj⟩
  | scope hc ih => exact wpIn_scope (ih (fun β' w' a' q1 q2 q3 q4 => ⟨fun l e => (by cases e), hK β' w' a' q1 q2 q3 q4⟩) hg)
  | _ => cases hg
theorem reg_run {h : Hd} {n : Nat} {its : List Item} {fr fr' : Fr} {H H' : CH} (e : evR h n (.reg its) fr H = some (.normal, fr', H')) : runI h its fr H = some (fr', H') := by
  simp only [evR] at e
  cases hr : runI h its fr H with
  | none => rw [hr] at e; simp at e
  | some q => rw [hr] at e; simp at e; rw [← e.1, ← e.2]
theorem guard_calls (hT : ∀ B, TblOk P B T) (hX : ∀ B f args H v H', X f args H v H' → PanC P B f args H v H') {f g : FuncId} {rf : RFunc} {i0 i1 : List Item} {rB : RCode} (hfo : FuncOk P f rf) (hrb : rf.body = .seq (.reg i0) (.seq (.reg i1) (.seq .bad rB))) {c0 c1 cB : Code} {id d x1 x2 x3 : Nat} {t1 t2 : TypeId} {p1 p2 : String} {a1 a2 : Array Edge}
    (hbody : (P.funcs[f]?).bind (·.body) = some (.seq c0 (.seq c1 (.seq (.region id #[{ dst := some d, op := .makeFunc (.func g) #[] #[.tmp x1, .tmp x2, .tmp x3], type := t1, pos := p1, after := a1, guard := none }, { dst := none, op := .defer { callee := .value (.tmp d), args := #[], argTypes := #[] }, type := t2, pos := p2, after := a2, guard := none }] false) cB))))
    (hgc : callable P g = true) (hd : d < rf.ntmps) {G : List Value → Value → CH → CH → Prop} (hgR : GdRet P g 3) (hgP : ∀ B, GdPan P B g G) {args : List Value} {H : CH} {Q : Value → CH → Prop}
    (h : WpR T (.reg i0) (fun t => args.getD t undef) H fun x fr1 H1 => x = .normal ∧ WpR T (.reg i1) fr1 H1 fun x fr2 H2 => x = .normal ∧
      WxR T X rB (putF fr2 (some d) undef) H2 (fun x fr3 H3 => (x = .normal ∨ x = .ret) ∧ ∃ vs, resL fr3 H3 rf.res = some vs ∧ Q (tupleV vs) H3)
        fun v H3 => ∃ H4, G [fr2 x1, fr2 x2, fr2 x3] v H3 H4 ∧ ∃ vs, resL (mskF rB (putF fr2 (some d) undef)) H4 rf.res = some vs ∧ Q (tupleV vs) H4) :
    ∃ v H', Q v H' ∧ ∀ B, CallC P B f args H v H' := by
  obtain ⟨n0, _, fr1, H1, e0, rfl, n1, _, fr2, H2, e1, rfl, h⟩ := h
  obtain ⟨fn, c, hfn, hb, hnt, hcode, hres⟩ := hfo.ok
  rw [hfn] at hbody
  simp only [Option.bind_some] at hbody
  rw [hb] at hbody
  cases hbody
  rw [hrb] at hcode
  cases hcode with
  | seq k0 hcode => cases hcode with
    | seq k1 hcode => cases hcode with
      | seq k2 k3 =>
        have pre : ∀ (B : Nat) (Qv : Value) (H' : CH) (β : Nat → Ent) (w : World) (args' : List Value), Sim P B β H w → VRs β args args' →
            (∀ β2 w2 a2 u1 u2 u3, Sim P B β2 H2 w2 → Evo β w β2 w2 → FR β2 rf.ntmps (putF fr2 (some d) undef) a2 → a2.defers = [{ target := .fn (.func g) #[u1, u2, u3], args := #[] }] → VRs β2 [fr2 x1, fr2 x2, fr2 x3] [u1, u2, u3] →
              cB.wpIn Fence.wide 0 P (bodyPostM Fence.wide 0 P fn fun e w' => ∃ v' β', e = .returned v' ∧ VR β' Qv v' ∧ Sim P B β' H' w' ∧ Evo β w β' w') a2 w2) →
            CallsIn Fence.wide 0 P f args'.toArray w fun e w' => ∃ v' β', e = .returned v' ∧ VR β' Qv v' ∧ Sim P B β' H' w' ∧ Evo β w β' w' := by
          intro B Qv H' β w args' hS hargs hK
          refine callsIn_of_wp_marks hfn hb trivial ?_ rfl
          have hf := frArgs (N := fn.ntmps) hargs
          rw [hnt] at hf ⊢
          refine wpIn_seq (reg_sound (ro := none) (fn_sound (hT B) n0) k0 hS hf (reg_run e0) fun β1 w1 a1 q1 q2 q3 q4 => ?_)
          refine wpIn_seq (reg_sound (ro := none) (fn_sound (hT B) n1) k1 q1 q3 (reg_run e1) fun β2 w2 a2 p1 p2 p3 p4 => ?_)
          refine wpIn_seq (wpIn_region ?_)
          have hmf : ∀ (fn : Go.Fn) (first cap : Array Value) (w : World), (Instr.makeFunc fn first cap).run P w = .ok (.func fn first cap) w := fun _ _ _ _ => rfl
          have hds : d < a2.tmps.size := Nat.lt_of_lt_of_le hd p3.1
          simp [wpOpsIn, go_sem, Oper.wpIn, Oper.semAt, execOp, hmf, hds]
          have hdd : a2.defers = [] := p4.trans q4
          have hx := hK β2 w2 { tmps := a2.tmps.setIfInBounds d (Value.func (Go.Fn.func g) #[] #[a2.tmps.getD x1 undef, a2.tmps.getD x2 undef, a2.tmps.getD x3 undef]), defers := { target := Target.fn (Go.Fn.func g) #[a2.tmps.getD x1 undef, a2.tmps.getD x2 undef, a2.tmps.getD x3 undef], args := #[] } :: a2.defers } (a2.tmps.getD x1 undef) (a2.tmps.getD x2 undef) (a2.tmps.getD x3 undef) p1 (q2.trans p2) (p3.put (d := some d) (fun x hx => by cases hx; exact hd) (.undef _)) (by rw [hdd]) ⟨rfl, fun i v hv => ?_⟩
          · simpa using hx
          · match i, hv with
            | 0, hv => cases hv; exact ⟨_, rfl, p3.2 x1⟩
            | 1, hv => cases hv; exact ⟨_, rfl, p3.2 x2⟩
            | 2, hv => cases hv; exact ⟨_, rfl, p3.2 x3⟩
            | n + 3, hv => cases hv
        have inv : ∀ (u1 u2 u3 : Value) (w : World), (invoke (.fn (.func g) #[u1, u2, u3]) #[]).run P w = .ok (.enter g [u1, u2, u3].toArray) w := fun u1 u2 u3 w => by
          simp only [invoke]
          rw [run_callFunc hgc]
          simp
        rcases h with ⟨n, x, fr3, H3, e2, hx, vs, e3, hq⟩ | ⟨n, v, H3, e2, H4, hG, vs, e3, hq⟩
        · refine ⟨_, _, hq, fun B => ⟨hfo.call, fun β w args' hS hargs => pre B _ _ β w args' hS hargs fun β2 w2 a2 u1 u2 u3 p1 p2 p3 p4 p5 => ?_⟩⟩
          refine code_sound (ro := none) (B1 := w2.heap.size) (D0 := a2.defers) (fn_sound (hT B) n) k3 β2 _ fr3 H2 H3 a2 w2 x _ p1 p3 (fun b hb => by cases hb) (DM.none rfl) (Nat.le_refl _) e2 fun β3 w3 a3 q1 q2 q3 q4 => ?_
          obtain ⟨ms, m1, m2, m3⟩ := q4
          have hlv : LeavesInM Fence.wide 0 P fn a3.tmps (fun e w' => ∃ v' β', e = .returned v' ∧ VR β' (tupleV vs) v' ∧ Sim P B β' H3 w' ∧ Evo β w β' w') a3.defers .returning w3 := by
            rw [m1, p4]
            refine leaves_marksD (by simp) ms w3 q1 q2 (Nat.le_refl _) m2 (fun D hD => ⟨(m3 D hD).1, (m3 D hD).2.1⟩) fun w4 hS2 hE2 => ?_
            refine ⟨by simp, .inr ⟨by simp [Fence.wide], .func g, #[u1, u2, u3], g, _, rfl, inv u1 u2 u3 w4, fun _ _ => trivial, ?_⟩⟩
            refine (hgR [u1, u2, u3] w4 rfl).mono ?_
            rintro e u' w' ⟨⟨y, rfl⟩, rfl, rfl⟩
            obtain ⟨v', r1, r2⟩ := results_sound hS2 q3 hres e3
            exact ⟨v', r1, v', β3, rfl, r2, hS2, p2.trans hE2⟩
          rcases hx with rfl | rfl
          · exact hlv
          · exact hlv
        · refine ⟨_, _, hq, fun B => ⟨hfo.call, fun β w args' hS hargs => pre B _ _ β w args' hS hargs fun β2 w2 a2 u1 u2 u3 p1 p2 p3 p4 p5 => ?_⟩⟩
          refine code_soundP (ro := none) (B1 := w2.heap.size) (D0 := a2.defers) (hT B) (panF_sound (hT B) (hX B) n) k3 β2 _ H2 H3 v a2 w2 _ p1 p3 (fun b hb => by cases hb) (DM.none rfl) (Nat.le_refl _) e2 fun β3 w3 a3 v3 q1 q2 q3 q4 q5 => ?_
          obtain ⟨ms, m1, m2, m3⟩ := q4
          show LeavesInM Fence.wide 0 P fn a3.tmps _ a3.defers (.panicking [{ v := v3, recovered := false }]) w3
          rw [m1, p4]
          refine leaves_marksD (by simp) ms w3 q1 q2 (Nat.le_refl _) m2 (fun D hD => ⟨(m3 D hD).1, (m3 D hD).2.1⟩) fun w4 hS2 hE2 => ?_
          refine ⟨by simp, .inr ⟨by simp [Fence.wide], .func g, #[u1, u2, u3], g, _, rfl, inv u1 u2 u3 w4, fun _ _ => trivial, ?_⟩⟩
          refine (hgP B β3 w4 [fr2 x1, fr2 x2, fr2 x3] [u1, u2, u3] v v3 H3 H4 hS2 ?_ q3 hG).mono ?_
          · exact ⟨p5.1, fun i y hy => by
              obtain ⟨z, z1, z2⟩ := p5.2 i y hy
              exact ⟨z, z1, z2.mono q2.ext⟩⟩
          · rintro e u' w' ⟨y, β', rfl, rfl, hS5, hE5⟩
            have hf5 : FR β' 0 (mskF rB (putF fr2 (some d) undef)) a3 := mskF_rel fun t ht => (q5 t ht).mono hE5.ext
            obtain ⟨v', r1, r2⟩ := results_sound hS5 hf5 hres e3
            exact ⟨v', r1, v', β', rfl, r2, hS5, p2.trans (hE2.trans hE5)⟩
end Can
end Go.Proofs.YtnankhlanilbbaaGreat
end
section
namespace Go.Proofs.YtnankhlanilbbaaGreat
namespace Can
open Go Go.RowKit
set_option linter.unusedSimpArgs false
set_option linter.unusedVariables false
variable {P : Program} {B : Nat}
def eqA : Value → Value → Bool
  | .bool a, .bool b => a == b
  | .int k a, .int l b => decide (k = l) && decide (a = b)
  | .string a, .string b => decide (a.data.toList = b.data.toList)
  | .pointer a, .pointer b => decide (a = b)
  | .slice a n c, .slice b m d => decide (a = b) && (n == m && c == d)
  | .nilFunc, .nilFunc => true
  | .nilIface, .nilIface => true
  | _, _ => false
theorem eqA_ok {a b : Value} (h : eqA a b = true) : a = b := by
  unfold eqA at h
  split at h <;> simp_all
  rename_i x y
  obtain ⟨⟨l⟩⟩ := x; obtain ⟨⟨m⟩⟩ := y
  simpa using h
def eqL : List Value → List Value → Bool
  | [], [] => true
  | a :: xs, b :: ys => eqA a b && eqL xs ys
  | _, _ => false
theorem eqL_ok : ∀ {xs ys : List Value}, eqL xs ys = true → xs = ys
  | [], [], _ => rfl
  | a :: xs, b :: ys, h => by simp only [eqL, Bool.and_eq_true] at h; rw [eqA_ok h.1, eqL_ok h.2]
  | [], _ :: _, h => by cases h
  | _ :: _, [], h => by cases h
def eqV : Value → Value → Bool
  | .agg xs, .agg ys => eqL xs.toList ys.toList
  | .func (.func f) xs ys, .func (.func g) us vs => decide (f = g) && (eqL xs.toList us.toList && eqL ys.toList vs.toList)
  | a, b => eqA a b
theorem eqV_ok {a b : Value} (h : eqV a b = true) : a = b := by
  unfold eqV at h
  split at h
  · have := eqL_ok h; congr 1; exact Array.ext' this
  · simp only [Bool.and_eq_true, decide_eq_true_eq] at h
    obtain ⟨rfl, h1, h2⟩ := h
    rw [Array.ext' (eqL_ok h1), Array.ext' (eqL_ok h2)]
  · exact eqA_ok h
def agB (fr : Fr) (G : CH) (it : Item) : Bool :=
  match wantedF fr it.guard with
  | some false => true
  | _ => match it.op, it.dst with
    | .l x, some d => match lop G (evF fr) x with
      | some v => eqV v (fr d)
      | none => false
    | _, _ => false
theorem agB_ok {fr : Fr} {G : CH} {it : Item} (h : agB fr G it = true) : Again fr G it := by
  unfold agB at h
  split at h
  · rename_i h0; exact .inl h0
  · split at h
    · rename_i x d h1 h2
      split at h
      · rename_i v h3; exact .inr ⟨x, d, h1, h2, by rw [h3, eqV_ok h]⟩
      · cases h
    · cases h
def chkB (fr : Fr) (l : List CH) : List (Item × Nat) → Bool
  | [] => true
  | p :: r => (match l[p.2]? with | some G => agB fr G p.1 | none => false) && chkB fr l r
theorem chkB_ok {fr : Fr} {l : List CH} : ∀ {c : List (Item × Nat)}, chkB fr l c = true → ∀ p ∈ c, ∃ G, l[p.2]? = some G ∧ Again fr G p.1
  | [], _, p, hp => by cases hp
  | q :: r, h, p, hp => by
    simp only [chkB, Bool.and_eq_true] at h
    rcases List.mem_cons.1 hp with rfl | hp
    · have h1 := h.1
      split at h1
      · rename_i G hG; exact ⟨G, hG, agB_ok h1⟩
      · cases h1
    · exact chkB_ok h.2 p hp
def evDc (h : Hd) (d : DReg) (fr : Fr) (H : CH) : Option (Fr × CH) :=
  match runD h d.its fr H with
  | some (fr', H', l) => if chkB fr' (H :: l) d.chk then some (fr', H') else none
  | none => none
theorem evDc_ok {h h' : Hd} (hle : HLe h h') {d : DReg} {fr : Fr} {H : CH} {r : Fr × CH} (hr : evDc h d fr H = some r) : evD h' d fr H = some r := by
  unfold evDc at hr
  split at hr
  · rename_i fr' H' l hd
    split at hr
    · rename_i hc
      cases hr
      unfold evD
      rw [runD_mono hle hd]
      simp only
      rw [if_pos (chkB_ok hc)]
    · cases hr
  · cases hr
def evRc (h : Hd) (n : Nat) : RCode → Fr → CH → Res
  | .skip, fr, H => some (.normal, fr, H)
  | .reg its, fr, H => (runI h its fr H).map fun (f, K) => (.normal, f, K)
  | .drw d, fr, H => (evDc h d fr H).map fun (f, K) => (.normal, f, K)
  | .seq a b, fr, H => match evRc h n a fr H with
    | some (.normal, fr', H') => evRc h n b fr' H'
    | r => r
  | .cond c a b, fr, H => match evF fr c with
    | .bool true => evRc h n a fr H
    | .bool false => evRc h n b fr H
    | _ => none
  | .block id c, fr, H => match evRc h n c fr H with
    | some (.exit i, fr', H') => if i = id then some (.normal, fr', H') else some (.exit i, fr', H')
    | r => r
  | .loop c, fr, H => loopN n (evRc h n c) fr H
  | .exit id, fr, H => some (.exit id, fr, H)
  | .ret, fr, H => some (.ret, fr, H)
  | .bad, _, _ => none
  | .rangeF g key, fr, H => match evF fr g with
    | .func (.func f) _ caps => match h.call f (.func (.yield H.nx) #[] #[] :: caps.toList) (H.new (.loop .ready none fr key)) with
      | some (_, H2) => match H2.ob H.nx with
        | .loop st pend fr' key' => if st = .busy then none else some (jumpX pend, fr, H2.set H.nx (.loop .exhausted pend fr' key'))
        | _ => none
      | none => none
    | _ => none
theorem evRc_ok {h h' : Hd} (hle : HLe h h') {n : Nat} : ∀ {c : RCode} {fr : Fr} {H : CH} {r : CExit × Fr × CH}, evRc h n c fr H = some r → evR h' n c fr H = some r := by
  intro c
  induction c with
  | bad => intro fr H r hr; simp [evRc] at hr
  | skip => intro fr H r hr; exact hr
  | reg its =>
    intro fr H r hr
    simp only [evRc, evR] at hr ⊢
    cases hi : runI h its fr H with
    | none => rw [hi] at hr; cases hr
    | some q => rw [hi] at hr; rw [runI_mono hle hi]; exact hr
  | drw d =>
    intro fr H r hr
    simp only [evRc, evR] at hr ⊢
    cases hi : evDc h d fr H with
    | none => rw [hi] at hr; cases hr
    | some q => rw [hi] at hr; rw [evDc_ok hle hi]; exact hr
  | seq a b iha ihb =>
    intro fr H r hr
    simp only [evRc, evR] at hr ⊢
    cases ha : evRc h n a fr H with
    | none => rw [ha] at hr; cases hr
    | some q =>
      obtain ⟨x, fr1, H1⟩ := q
      rw [ha] at hr
      rw [iha ha]
      cases x with
      | normal => exact ihb hr
      | exit i => exact hr
      | ret => exact hr
  | cond c a b iha ihb =>
    intro fr H r hr
    simp only [evRc, evR] at hr ⊢
    split at hr
    · rename_i e; rw [e]; exact iha hr
    · rename_i e; rw [e]; exact ihb hr
    · cases hr
  | block id c ih =>
    intro fr H r hr
    simp only [evRc, evR] at hr ⊢
    cases ha : evRc h n c fr H with
    | none => rw [ha] at hr; cases hr
    | some q => rw [ha] at hr; rw [ih ha]; exact hr
  | loop c ih =>
    intro fr H r hr
    simp only [evRc, evR] at hr ⊢
    exact loopN_mono (Nat.le_refl n) (fun _ _ _ hq => ih hq) hr
  | exit id => intro fr H r hr; exact hr
  | ret => intro fr H r hr; exact hr
  | rangeF g key =>
    intro fr H r hr
    simp only [evRc, evR] at hr ⊢
    split at hr
    · rename_i f fst caps hg
      cases hc : h.call f (Value.func (.yield H.nx) #[] #[] :: caps.toList) (H.new (.loop .ready none fr key)) with
      | none => rw [hc] at hr; cases hr
      | some q => rw [hc] at hr; rw [hg]; simp only; rw [hle.call _ _ _ _ hc]; exact hr
    · cases hr
def evHc (L : List FuncId) (xt : FuncId → List Value → Option Value) (fn : FuncId → Option RFunc) (lp : Nat × Nat → Option (List Nat × RCode × RCode)) : Nat → Hd
  | 0 => ⟨fun _ _ _ => none, fun _ _ _ => none⟩
  | n + 1 => ⟨fun f args H => if L.elem f then (xt f args).map fun v => (v, H) else match fn f with
    | some rf => match evRc (evHc L xt fn lp n) n rf.body (fun t => args.getD t undef) H with
      | some (.normal, fr', H') => (resL fr' H' rf.res).map fun vs => (tupleV vs, H')
      | some (.ret, fr', H') => (resL fr' H' rf.res).map fun vs => (tupleV vs, H')
      | _ => none
    | none => none, fun l args H => match H.ob l with
    | .loop .ready _ fr key => match lp key with
      | some (ps, asg, body) => if args.length = ps.length then match evRc (evHc L xt fn lp n) n asg (putPs fr ps args) H with
        | some (.normal, fr2, H2) => match H2.ob l with
          | .loop .ready pend fr0 key0 => match evRc (evHc L xt fn lp n) n body fr2 (H2.set l (.loop .busy pend fr0 key0)) with
            | some (x, _, H4) => match H4.ob l with
              | .loop _ _ fr5 key5 => some (.bool (xPend x).isNone, H4.set l (.loop (if (xPend x).isNone then .ready else .done) (xPend x) fr5 key5))
              | _ => none
            | none => none
          | _ => none
        | _ => none
        else none
      | none => none
    | _ => none⟩
theorem evHc_ok {T : Tbl} {L : List FuncId} {xt : FuncId → List Value → Option Value} (he : ∀ f, T.ext f = L.elem f) (hx : ∀ f args H, T.xt.call f args H = (xt f args).map fun v => (v, H)) : ∀ n, HLe (evHc L xt T.fn T.loop n) (evH T n)
  | 0 => ⟨fun f a H r hr => by simp [evHc] at hr, fun f a H r hr => by simp [evHc] at hr⟩
  | n + 1 => by
    have ih := evHc_ok he hx n
    refine ⟨fun f a H r hr => ?_, fun l a H r hr => ?_⟩
    · simp only [evHc] at hr
      simp only [evH, he]
      split at hr
      · rename_i hl
        rw [if_pos hl, hx]
        exact hr
      rename_i hl
      rw [if_neg hl]
      split at hr
      · rename_i rf hrf
        cases hb : evRc (evHc L xt T.fn T.loop n) n rf.body (fun t => a.getD t undef) H with
        | none => rw [hb] at hr; cases hr
        | some q => rw [hb] at hr; simp only [hrf]; rw [evRc_ok ih hb]; exact hr
      · cases hr
    · simp only [evHc] at hr
      simp only [evH]
      split at hr
      · rename_i pend fr key ho
        simp only [ho]
        split at hr
        · rename_i ps asg body hl
          split at hr
          · rename_i hlen
            simp only [hl, if_pos hlen]
            cases hb : evRc (evHc L xt T.fn T.loop n) n asg (putPs fr ps a) H with
            | none => rw [hb] at hr; cases hr
            | some q =>
              obtain ⟨x, fr2, H2⟩ := q
              rw [hb] at hr
              rw [evRc_ok ih hb]
              cases x with
              | normal =>
                simp only at hr ⊢
                split at hr
                · rename_i pend0 fr0 key0 ho2
                  cases hb2 : evRc (evHc L xt T.fn T.loop n) n body fr2 (H2.set l (.loop .busy pend0 fr0 key0)) with
                  | none => rw [hb2] at hr; cases hr
                  | some q2 => rw [hb2] at hr; rw [ho2]; simp only; rw [evRc_ok ih hb2]; exact hr
                · cases hr
              | ret => cases hr
              | exit i => cases hr
          · cases hr
        · cases hr
      · cases hr
def noH : CH := ⟨0, fun _ => .unborn⟩
def PureOk (P : Program) (f : FuncId) (args : List Value) (v : Value) : Prop :=
  (callable P f = true ∧ closedA args = true ∧ closedW v = true ∧ ∀ w, CallsIn Fence.wide 0 P f args.toArray w fun e w' => e = .returned v ∧ w'.os = w.os ∧ w'.tape = w.tape ∧ w'.output = w.output ∧ w.heap.size ≤ w'.heap.size ∧ ∀ b, b < w.heap.size → w'.heap[b]? = w.heap[b]?) ∨ ExtOk P f args v
noncomputable def tblG (P : Program) (L : List FuncId) (G : FuncId → List Value → Option Value) : Tbl :=
  ⟨resFunc P (fun N ops => resD P N ops), resLoop P (fun N ops => resD P N ops), fun f => L.elem f, ⟨fun f args H => (G f args).map fun v => (v, H), fun _ _ _ => none⟩⟩
theorem tblG_ok {L : List FuncId} {G : FuncId → List Value → Option Value} (hG : ∀ f args v, G f args = some v → PureOk P f args v) : TblOk P B (tblG P L G) := by
  refine ⟨fun f rf h => resFunc_ok (fun N ops d h => resD_ok h) h, fun key ps asg body h => resLoop_ok (fun N ops d h => resD_ok h) h, ⟨fun f args H v H' h => ?_, fun l args H v H' h => (by cases h)⟩⟩
  have h' : (G f args).map (fun v => (v, H)) = some (v, H') := h
  rw [Option.map_eq_some_iff] at h'
  obtain ⟨u, hu, he⟩ := h'
  cases he
  rcases hG _ _ _ hu with ⟨hc, ha, hv, hw⟩ | hx
  case inr => exact .inr ⟨hx, rfl⟩
  refine .inl ⟨hc, fun β w args' hS hr => ?_⟩
  rw [closedA_eq ha hr]
  refine (hw w).mono fun e w' ⟨he, h1, h2, h3, h4, h5⟩ => ⟨v, β, he, closedW_rel hv β, ?_, ?_⟩
  · exact ⟨fun l => (hS.ent l).mono (EntExt.refl β) fun b hb => h5 b (at_lt hS hb), hS.nx, hS.inj, Nat.le_trans hS.base h4⟩
  · exact ⟨h1, h2, h3, h4, fun b hb ho => ⟨h5 b hb, ho⟩, EntExt.refl β⟩
theorem wpF_rG {L : List FuncId} {G : FuncId → List Value → Option Value} {f : Nat} (he : L.elem f = false) (h : (resFunc P (fun N ops => resD P N ops) f).isSome = true) {args : List Value} {H : CH} {Q : Value → CH → Prop} (k : WpR (tblG P L G) (rF P f).body (fun t => args.getD t undef) H (FunK (rF P f).res Q)) : WpF (tblG P L G) f args H Q := by
  refine wpF_in he ?_ k
  unfold rF
  show resFunc P (fun N ops => resD P N ops) f = some ((resFunc P (fun N ops => resD P N ops) f).getD ⟨0, [], .skip⟩)
  cases hr : resFunc P (fun N ops => resD P N ops) f with
  | none => rw [hr] at h; cases h
  | some r => rfl
end Can
end Go.Proofs.YtnankhlanilbbaaGreat
end
section
namespace Go.Proofs.YtnankhlanilbbaaGreat
namespace Can
open Go Go.RowKit
set_option linter.unusedSimpArgs false
set_option linter.unusedVariables false
variable {P : Program}
abbrev Spec := FuncId → List Value → CH → Value → CH → Prop
open Classical in
noncomputable def tell (P : Program) (S : Spec) (f : FuncId) (args : List Value) (H : CH) : Option (Value × CH) :=
  if h : ∃ r : Value × CH, S f args H r.1 r.2 ∧ ∀ B, CallC P B f args H r.1 r.2 then some h.choose else none
noncomputable def tblS (P : Program) (L : List FuncId) (G : FuncId → List Value → Option Value) (LS : List FuncId) (S : Spec) : Tbl :=
  ⟨resFunc P (fun N ops => resD P N ops), resLoop P (fun N ops => resD P N ops), fun f => LS.elem f || L.elem f, ⟨fun f args H => if LS.elem f then tell P S f args H else (G f args).map fun v => (v, H), fun _ _ _ => none⟩⟩
theorem tblS_ok {B : Nat} {L : List FuncId} {G : FuncId → List Value → Option Value} {LS : List FuncId} {S : Spec} (hG : ∀ f args v, G f args = some v → PureOk P f args v) : TblOk P B (tblS P L G LS S) := by
  refine ⟨(tblG_ok (B := B) (L := L) hG).fn, (tblG_ok (B := B) (L := L) hG).loop, ⟨fun f args H v H' h => ?_, fun l args H v H' h => (by cases h)⟩⟩
  have h' : (if LS.elem f then tell P S f args H else (G f args).map fun v => (v, H)) = some (v, H') := h
  split at h'
  · unfold tell at h'
    split at h'
    · rename_i hx
      have hc := hx.choose_spec.2 B
      rw [Option.some.inj h'] at hc
      exact .inl ⟨hc.1, hc.2⟩
    · cases h'
  · exact (tblG_ok (B := B) (L := L) hG).ext.1 f args H v H' h'
theorem wpF_tell {L : List FuncId} {G : FuncId → List Value → Option Value} {LS : List FuncId} {S : Spec} {f : FuncId} (hf : LS.elem f = true) {args : List Value} {H : CH} {Q : Value → CH → Prop} (h : ∃ v H', S f args H v H' ∧ ∀ B, CallC P B f args H v H') (hQ : ∀ v H', S f args H v H' → Q v H') : WpF (tblS P L G LS S) f args H Q := by
  obtain ⟨v, H', h1, h2⟩ := h
  have hx : ∃ r : Value × CH, S f args H r.1 r.2 ∧ ∀ B, CallC P B f args H r.1 r.2 := ⟨(v, H'), h1, h2⟩
  refine ⟨1, hx.choose.1, hx.choose.2, ?_, hQ _ _ hx.choose_spec.1⟩
  simp only [evFn, evH]
  have he : (tblS P L G LS S).ext f = true := by show (LS.elem f || L.elem f) = true; rw [hf]; rfl
  rw [if_pos he]
  show (if LS.elem f then tell P S f args H else (G f args).map fun v => (v, H)) = _
  rw [if_pos hf]
  unfold tell
  rw [dif_pos hx]
theorem tbS_fn {L : List FuncId} {G : FuncId → List Value → Option Value} {LS : List FuncId} {S : Spec} {f : Nat} (h : (resFunc P (fun N ops => resD P N ops) f).isSome = true) : (tblS P L G LS S).fn f = some (rF P f) := by
  unfold rF
  show resFunc P (fun N ops => resD P N ops) f = some ((resFunc P (fun N ops => resD P N ops) f).getD ⟨0, [], .skip⟩)
  cases hr : resFunc P (fun N ops => resD P N ops) f with
  | none => rw [hr] at h; cases h
  | some r => rfl
theorem wpF_rS {L : List FuncId} {G : FuncId → List Value → Option Value} {LS : List FuncId} {S : Spec} {f : Nat} (he : (LS.elem f || L.elem f) = false) (h : (resFunc P (fun N ops => resD P N ops) f).isSome = true) {args : List Value} {H : CH} {Q : Value → CH → Prop} (k : WpR (tblS P L G LS S) (rF P f).body (fun t => args.getD t undef) H (FunK (rF P f).res Q)) : WpF (tblS P L G LS S) f args H Q :=
  wpF_in he (tbS_fn h) k
theorem tell_wp {T : Tbl} (hT : ∀ B, TblOk P B T) {f : FuncId} {args : List Value} {H : CH} {Q : Value → CH → Prop} (hc : callable P f = true) (h : WpF T f args H Q) : ∃ v H', Q v H' ∧ ∀ B, CallC P B f args H v H' := by
  obtain ⟨n, v, H', h1, h2⟩ := h
  exact ⟨v, H', h2, fun B => ⟨hc, fun β w args' hS ha => callsIn_wide.2 (calls_of_ev (hT B) h1 hS ha hc)⟩⟩
end Can
end Go.Proofs.YtnankhlanilbbaaGreat
end
section
namespace Go.Proofs.YtnankhlanilbbaaGreat
namespace Can
open Go Go.RowKit
set_option linter.unusedSimpArgs false
set_option linter.unusedVariables false
variable {P : Program} {B : Nat}
theorem live_closed {β β' : Nat → Ent} {w : World} {b : Nat × Nat} {sz n : Nat} {k : Kd} {cs : List Value} {e : TypeId} (hc : closedC cs = true) (h : Live P B β w b sz n k cs e) : Live P B β' w b sz n k cs e := by
  obtain ⟨cs', e', fr, h1, h2, h3, h4, h5⟩ := h
  refine ⟨cs', e', fr, h1, h2, h3, fun i v hv => ?_, h5⟩
  obtain ⟨v', g1, g2⟩ := h4 i v hv
  have hv0 : closedV v = true := List.all_eq_true.1 hc v (List.mem_of_getElem? hv)
  have hw0 : closedW v = true := by
    unfold closedV at hv0
    unfold closedW
    split at hv0 <;> first | rfl | cases hv0
  rw [closedW_eq hw0 g2] at g1
  exact ⟨v, g1, closedV_rel hv0 β'⟩
theorem VR_closed {β β' : Nat → Ent} {v v' : Value} (h : closedV v = true) (hr : VR β v v') : VR β' v v' := by
  have hw : closedW v = true := by
    unfold closedV at h
    unfold closedW
    split at h <;> first | rfl | cases h
  rw [closedW_eq hw hr]
  exact closedV_rel h β'
theorem ent_cells {β : Nat → Ent} {w : World} {E : Ent} {cs : List Value} {e : TypeId} {k : Kd} (h : EntRel P B β w E (.cells cs e k)) : ∃ b sz n, E = .live b sz n k ∧ Live P B β w b sz n k cs e := by
  cases E with
  | live b sz n k' =>
    obtain ⟨rfl, h⟩ := h
    exact ⟨b, sz, n, rfl, h⟩
  | _ => exact h.elim
theorem slice_ren {β β' : Nat → Ent} {l l' m c : Nat} {v : Value} (he : β' l' = β l) (h : VR β (.slice (some ⟨l, 0, none⟩) m c) v) : VR β' (.slice (some ⟨l', 0, none⟩) m c) v := by
  cases h with
  | sl h h1 h2 h3 h4 h5 => exact .sl (he.trans h) h1 h2 h3 h4 h5
  | sdead a h h2 => exact .sdead a (he.trans h) h2
  | szero a h => exact .szero a (he.trans h)
theorem call_frame {f : FuncId} {cs ts : List Value} {e e' : TypeId} {kd k' : Kd} {n l m c : Nat} {a b : Value} {H1 : CH} (hcs : closedC cs = true) (hts : closedC ts = true) (ha : closedV a = true) (hb : closedV b = true)
    (h : ∀ B, CallC P B f [.slice (some ⟨0, 0, none⟩) n n] (noH.new (.cells cs e kd)) (.tuple #[.slice (some ⟨l, 0, none⟩) m c, a, b]) H1) (h0 : H1.ob 0 = .cells cs e kd) (hl : H1.ob l = .cells ts e' k') (hl0 : l ≠ 0) (hk' : k' ≠ .ro) {H : CH} {p : Nat} (hp : H.ob p = .cells cs e kd) :
    ∀ B, CallC P B f [.slice (some ⟨p, 0, none⟩) n n] H (.tuple #[.slice (some ⟨H.nx, 0, none⟩) m c, a, b]) (H.new (.cells ts e' k')) := by
  intro B
  refine ⟨(h B).1, fun β w args' hS hargs => ?_⟩
  have hpe := hS.ent p
  rw [hp] at hpe
  obtain ⟨bb, sz, nn, hbp, hlv⟩ := ent_cells hpe
  let β0 : Nat → Ent := fun k => if k = 0 then β p else .unborn
  have hS0 : Sim P B β0 (noH.new (.cells cs e kd)) w := by
    refine ⟨fun k => ?_, fun k hk => ?_, fun k k2 b g1 g2 => ?_, hS.base⟩
    · show EntRel P B β0 w (if k = 0 then β p else .unborn) (if k = 0 then .cells cs e kd else .unborn)
      by_cases hk : k = 0
      · rw [if_pos hk, if_pos hk, hbp]
        exact ⟨rfl, live_closed hcs hlv⟩
      · rw [if_neg hk, if_neg hk]
        exact trivial
    · show (if k = 0 then CObj.cells cs e kd else .unborn) = .unborn
      have hk : 1 ≤ k := hk
      rw [if_neg (by omega)]
    · have g1 : (if k = 0 then β p else .unborn : Ent).owns b := g1
      have g2 : (if k2 = 0 then β p else .unborn : Ent).owns b := g2
      split at g1
      · split at g2
        · omega
        · exact g2.elim
      · exact g1.elim
  have hargs0 : VRs β0 [.slice (some ⟨0, 0, none⟩) n n] args' := by
    refine ⟨hargs.1, fun i v hv => ?_⟩
    obtain ⟨v', g1, g2⟩ := hargs.2 i (.slice (some ⟨p, 0, none⟩) n n) (by
      cases i with
      | zero => rfl
      | succ i => simp at hv)
    refine ⟨v', g1, ?_⟩
    cases i with
    | zero => cases hv; exact slice_ren (β' := β0) (l' := 0) (if_pos rfl) g2
    | succ i => simp at hv
  refine ((h B).2 β0 w args' hS0 hargs0).mono ?_
  rintro e1 w' ⟨v', β1, rfl, hv, hS1, hE⟩
  obtain ⟨b2, sz2, nn2, hb2, hlv2⟩ := ent_cells (by have := hS1.ent l; rw [hl] at this; exact this)
  have hown2 : (β1 l).owns b2.1 := by rw [hb2]; exact ⟨hk', rfl⟩
  have hb0 : β1 0 = β p := by
    rcases hE.ext 0 with q | q | ⟨_, _, _, _, _, q⟩
    · exact q
    · have q : β p = .unborn := q
      rw [hbp] at q; cases q
    · have := hS1.ent 0
      rw [h0, q] at this
      exact this.elim
  have hlv0 : Live P B β1 w' bb sz nn kd cs e := by
    have := hS1.ent 0
    rw [h0, hb0, hbp] at this
    exact this.2
  have hfr : ∀ b, b < w.heap.size → ¬ (β1 l).owns b := fun b hb ho => by
    by_cases hob : Out β0 b
    · exact (hE.keep b hb hob).2 l ho
    · apply hob
      intro k hk
      have hk : (if k = 0 then β p else .unborn : Ent).owns b := hk
      split at hk
      · rw [← hb0] at hk
        exact hl0 (hS1.inj l 0 b ho hk)
      · exact hk.elim
  have hun := hS.unborn
  have hext : EntExt β (upd β H.nx (β1 l)) := fun k => by
    by_cases hk : k = H.nx
    · subst hk; exact .inr (.inl hun)
    · exact .inl (upd_other hk)
  have hout0 : ∀ b, Out β b → Out β0 b := fun b ho k hk => by
    have hk : (if k = 0 then β p else .unborn : Ent).owns b := hk
    split at hk
    · exact ho p hk
    · exact hk.elim
  have hpn : p ≠ H.nx := fun q => by
    rw [q, hun] at hbp; cases hbp
  have hsame : ∀ k b, k ≠ p → ((∃ z sz n k1, β k = .live (b, z) sz n k1) ∨ β k = .obj b ∨ β k = .loop b) → w'.heap[b]? = w.heap[b]? := fun k b hkp hb => by
    refine (hE.keep b (at_lt hS hb) fun j hj => ?_).1
    have hj : (if j = 0 then β p else .unborn : Ent).owns b := hj
    split at hj
    · rcases hb with ⟨z, s1, n1, k1, hb⟩ | hb | hb
      · by_cases hro : k1 = .ro
        · subst hro
          obtain ⟨_, _, _, q⟩ := hS.live hb
          obtain ⟨_, _, _, _, _, _, _, _, _, q7, _⟩ := q
          have q7 := q7 rfl
          rw [hbp] at hj
          obtain ⟨_, _, _, _, _, _, _, _, r6, _⟩ := hlv
          have := (r6 hj.1).2.1
          have := hj.2
          simp only at q7
          omega
        · exact hkp (hS.inj k p b (by rw [hb]; exact ⟨hro, rfl⟩) hj)
      · exact hkp (hS.inj k p b (by rw [hb]; exact rfl) hj)
      · exact hkp (hS.inj k p b (by rw [hb]; exact rfl) hj)
    · exact hj
  have hS2 : Sim P B (upd β H.nx (β1 l)) (H.new (.cells ts e' k')) w' := by
    refine ⟨fun k => ?_, fun k hk => ?_, fun k k2 b g1 g2 => ?_, Nat.le_trans hS.base hE.size⟩
    · by_cases hk : k = H.nx
      · subst hk
        rw [upd_same]
        show EntRel P B _ w' (β1 l) (if H.nx = H.nx then .cells ts e' k' else H.ob H.nx)
        rw [if_pos rfl, hb2]
        exact ⟨rfl, live_closed hts hlv2⟩
      · rw [upd_other hk]
        show EntRel P B _ w' (β k) (if k = H.nx then .cells ts e' k' else H.ob k)
        rw [if_neg hk]
        by_cases hkp : k = p
        · subst hkp
          rw [hp, hbp]
          exact ⟨rfl, live_closed hcs hlv0⟩
        · exact (hS.ent k).mono hext fun b hb => hsame k b hkp hb
    · show (if k = H.nx then CObj.cells ts e' k' else H.ob k) = .unborn
      have hk : H.nx + 1 ≤ k := hk
      rw [if_neg (by omega)]
      exact hS.nx k (by omega)
    · have hlt : ∀ k b, (β k).owns b → b < w.heap.size := fun k b ho => at_lt hS (l := k) (by
        cases hq : β k with
        | live b1 s1 n1 k1 => rw [hq] at ho; obtain ⟨_, rfl⟩ := ho; exact .inl ⟨b1.2, s1, n1, k1, rfl⟩
        | obj b1 => rw [hq] at ho; cases ho; exact .inr (.inl rfl)
        | loop b1 => rw [hq] at ho; cases ho; exact .inr (.inr rfl)
        | _ => rw [hq] at ho; exact ho.elim)
      by_cases hk : k = H.nx
      · by_cases hk2 : k2 = H.nx
        · rw [hk, hk2]
        · rw [hk, upd_same] at g1
          rw [upd_other hk2] at g2
          exact absurd g1 (hfr b (hlt _ _ g2))
      · by_cases hk2 : k2 = H.nx
        · rw [hk2, upd_same] at g2
          rw [upd_other hk] at g1
          exact absurd g2 (hfr b (hlt _ _ g1))
        · rw [upd_other hk] at g1
          rw [upd_other hk2] at g2
          exact hS.inj k k2 b g1 g2
  refine ⟨v', _, rfl, ?_, hS2, ⟨hE.os, hE.tape, hE.output, hE.size, fun b hb ho => ⟨(hE.keep b hb (hout0 b ho)).1, fun k hk => ?_⟩, hext⟩⟩
  · cases hv with
    | tuple hsz hi =>
      refine .tuple hsz fun i h1 h2 => ?_
      have hq := hi i h1 h2
      have hi3 : i < 3 := h1
      obtain rfl | rfl | rfl : i = 0 ∨ i = 1 ∨ i = 2 := by omega
      · exact slice_ren (β' := upd β H.nx (β1 l)) (l' := H.nx) upd_same hq
      · exact VR_closed ha hq
      · exact VR_closed hb hq
  · by_cases hkn : k = H.nx
    · subst hkn
      rw [upd_same] at hk
      exact hfr b hb hk
    · rw [upd_other hkn] at hk
      exact ho k hk
end Can
end Go.Proofs.YtnankhlanilbbaaGreat
end
section
namespace Go.Proofs.YtnankhlanilbbaaGreat
namespace Can
open Go Go.RowKit
set_option linter.unusedSimpArgs false
set_option linter.unusedVariables false
inductive R2 {α β : Type} (R : α → β → Prop) : List α → List β → Prop where
  | nil : R2 R [] []
  | cons {x : α} {y : β} {xs : List α} {ys : List β} (h : R x y) (t : R2 R xs ys) : R2 R (x :: xs) (y :: ys)
theorem R2.len {α β : Type} {R : α → β → Prop} : ∀ {xs : List α} {ys : List β}, R2 R xs ys → ys.length = xs.length
  | _, _, .nil => rfl
  | _, _, .cons _ t => by simp [t.len]
theorem R2.get {α β : Type} {R : α → β → Prop} : ∀ {xs : List α} {ys : List β}, R2 R xs ys → ∀ {i : Nat} {x : α}, xs[i]? = some x → ∃ y, ys[i]? = some y ∧ R x y
  | _, _, .nil, i, x, h => by simp at h
  | _, _, .cons h t, 0, x, e => by simp at e; subst e; exact ⟨_, rfl, h⟩
  | _, _, .cons h t, i + 1, x, e => by simpa using t.get (i := i) (by simpa using e)
theorem R2.app {α β : Type} {R : α → β → Prop} : ∀ {xs xs' : List α} {ys ys' : List β}, R2 R xs ys → R2 R xs' ys' → R2 R (xs ++ xs') (ys ++ ys')
  | _, _, _, _, .nil, g => g
  | _, _, _, _, .cons h t, g => .cons h (t.app g)
theorem R2.take {α β : Type} {R : α → β → Prop} : ∀ {xs : List α} {ys : List β} (n : Nat), R2 R xs ys → R2 R (xs.take n) (ys.take n)
  | _, _, n, .nil => by simpa using .nil
  | _, _, 0, .cons h t => by simpa using .nil
  | _, _, n + 1, .cons h t => by simpa using .cons h (t.take n)
theorem R2.drop {α β : Type} {R : α → β → Prop} : ∀ {xs : List α} {ys : List β} (n : Nat), R2 R xs ys → R2 R (xs.drop n) (ys.drop n)
  | _, _, n, .nil => by simpa using .nil
  | _, _, 0, .cons h t => by simpa using .cons h t
  | _, _, n + 1, .cons h t => by simpa using t.drop n
theorem R2.mono {α β : Type} {R R' : α → β → Prop} (hR : ∀ x y, R x y → R' x y) : ∀ {xs : List α} {ys : List β}, R2 R xs ys → R2 R' xs ys
  | _, _, .nil => .nil
  | _, _, .cons h t => .cons (hR _ _ h) (t.mono hR)
theorem R2.map {α β γ : Type} {R : α → β → Prop} {R' : γ → β → Prop} {f : α → γ} (hR : ∀ x y, R x y → R' (f x) y) : ∀ {xs : List α} {ys : List β}, R2 R xs ys → R2 R' (xs.map f) ys
  | _, _, .nil => .nil
  | _, _, .cons h t => .cons (hR _ _ h) (t.map hR)
inductive SV where
  | sc (v : Value)
  | row (sz : Nat) (gs : List (List SV))
inductive CV where
  | s (x : SV)
  | own (t : Nat) (e : TypeId) (sz : Nat) (gs : List (List SV))
  | bad
inductive RV where
  | c (x : CV)
  | agg (cs : List CV)
inductive AV where
  | r (x : RV)
  | ptr (o off : Nat)
  | eptr (t : Option Nat) (g : List SV) (off : Nat)
  | tup (l : List RV)
  | skip
  | bad
mutual
inductive SVR (K : CH) (A : Nat → Prop) : SV → Value → Prop where
  | sc {v : Value} (h : isCell v = true) : SVR K A (.sc v) v
  | row0 {sz : Nat} : SVR K A (.row sz []) (.slice none 0 0)
  | row {b sz : Nat} {os : List Value} {e : TypeId} {kd : Kd} {gs : List (List SV)} (hne : gs ≠ [] ∧ gs.length ≤ maxLen) (hb : A b) (ho : K.ob b = .cells os e kd) (hk : kd.isRo = false) (hg : ∀ g ∈ gs, g.length = sz) (hs : SVRs K A gs.flatten os) : SVR K A (.row sz gs) (.slice (some ⟨b, 0, none⟩) gs.length gs.length)
inductive SVRs (K : CH) (A : Nat → Prop) : List SV → List Value → Prop where
  | nil : SVRs K A [] []
  | cons {x : SV} {v : Value} {xs : List SV} {vs : List Value} (h : SVR K A x v) (t : SVRs K A xs vs) : SVRs K A (x :: xs) (v :: vs)
end
theorem SVR.mv {K K' : CH} {A A' : Nat → Prop} (hA : ∀ b, A b → A' b ∧ K'.ob b = K.ob b) {x : SV} {v : Value} (h : SVR K A x v) : SVR K' A' x v :=
  SVR.rec (motive_1 := fun x v _ => SVR K' A' x v) (motive_2 := fun x v _ => SVRs K' A' x v) (fun h => .sc h) .row0 (fun hne hb ho hk hg _ ih => .row hne (hA _ hb).1 ((hA _ hb).2.trans ho) hk hg ih) .nil (fun _ _ i1 i2 => .cons i1 i2) h
theorem SVRs.mv {K K' : CH} {A A' : Nat → Prop} (hA : ∀ b, A b → A' b ∧ K'.ob b = K.ob b) {x : List SV} {v : List Value} (h : SVRs K A x v) : SVRs K' A' x v :=
  SVRs.rec (motive_1 := fun x v _ => SVR K' A' x v) (motive_2 := fun x v _ => SVRs K' A' x v) (fun h => .sc h) .row0 (fun hne hb ho hk hg _ ih => .row hne (hA _ hb).1 ((hA _ hb).2.trans ho) hk hg ih) .nil (fun _ _ i1 i2 => .cons i1 i2) h
theorem SVRs.r2 {K : CH} {A : Nat → Prop} : ∀ {xs : List SV} {vs : List Value}, SVRs K A xs vs → R2 (SVR K A) xs vs
  | [], _, h => by cases h; exact .nil
  | x :: xs, _, h => by
    cases h with
    | cons h t => exact .cons h t.r2
theorem R2.svrs {K : CH} {A : Nat → Prop} : ∀ {xs : List SV} {vs : List Value}, R2 (SVR K A) xs vs → SVRs K A xs vs
  | _, _, .nil => .nil
  | _, _, .cons h t => .cons h t.svrs
abbrev rowS (sz : Nat) (gs : List (List SV)) : SV := .row sz gs
theorem SVR.cell {K : CH} {A : Nat → Prop} {x : SV} {v : Value} (h : SVR K A x v) : isCell v = true := by
  cases h with
  | sc h => exact h
  | row0 => rfl
  | row => rfl
structure TE where
  σ : Nat → Option Nat
  ρ : Nat → Option Nat
  hid : Nat → Prop
def Frz (K : CH) (E : TE) (b : Nat) : Prop := b < K.nx ∧ ¬ E.hid b ∧ (∀ t, E.σ t ≠ some b) ∧ ∀ o, E.ρ o ≠ some b
inductive CVR (K : CH) (E : TE) : CV → Value → Prop where
  | s {x : SV} {v : Value} (h : SVR K (Frz K E) x v) : CVR K E (.s x) v
  | own0 {t sz : Nat} {e : TypeId} : CVR K E (.own t e sz []) (.slice none 0 0)
  | own {t b sz : Nat} {os : List Value} {e : TypeId} {kd : Kd} {gs : List (List SV)} (hne : gs ≠ [] ∧ gs.length ≤ maxLen) (hb : E.σ t = some b) (ho : K.ob b = .cells os e kd) (hk : kd.isRo = false) (hg : ∀ g ∈ gs, g.length = sz) (hs : SVRs K (Frz K E) gs.flatten os) : CVR K E (.own t e sz gs) (.slice (some ⟨b, 0, none⟩) gs.length gs.length)
  | bad {v : Value} (h : isCell v = true) : CVR K E .bad v
theorem CVR.cell {K : CH} {E : TE} {x : CV} {v : Value} (h : CVR K E x v) : isCell v = true := by
  cases h with
  | s h => exact h.cell
  | own0 => rfl
  | own => rfl
  | bad h => exact h
inductive RVR (K : CH) (E : TE) : RV → Value → Prop where
  | c {x : CV} {v : Value} (h : CVR K E x v) : RVR K E (.c x) v
  | agg {cs : List CV} {vs : List Value} (h : R2 (CVR K E) cs vs) : RVR K E (.agg cs) (.agg vs.toArray)
inductive AVR (K : CH) (E : TE) : AV → Value → Prop where
  | r {x : RV} {v : Value} (h : RVR K E x v) : AVR K E (.r x) v
  | ptr {o off l : Nat} (h : E.ρ o = some l) : AVR K E (.ptr o off) (.pointer (some ⟨l, off, none⟩))
  | eptr {t : Option Nat} {g : List SV} {off b base : Nat} {os : List Value} {e : TypeId} {kd : Kd} (hb : match t with | none => Frz K E b | some t => E.σ t = some b) (ho : K.ob b = .cells os e kd) (hl : base + g.length ≤ os.length) (hs : R2 (SVR K (Frz K E)) g ((os.drop base).take g.length)) : AVR K E (.eptr t g off) (.pointer (some ⟨b, base + off, none⟩))
  | tup {l : List RV} {vs : List Value} (h : R2 (RVR K E) l vs) : AVR K E (.tup l) (.tuple vs.toArray)
  | skip : AVR K E .skip skipV
  | bad {v : Value} : AVR K E .bad v
inductive SA where
  | keep | fz | kill
def CV.act (g : Nat → SA) : CV → CV
  | .own t e sz gs => match g t with
    | .keep => .own t e sz gs
    | .fz => .s (rowS sz gs)
    | .kill => .bad
  | x => x
def RV.act (g : Nat → SA) : RV → RV
  | .c x => .c (x.act g)
  | .agg cs => .agg (cs.map (CV.act g))
def AV.act (g : Nat → SA) : AV → AV
  | .r x => .r (x.act g)
  | .eptr (some t) l off => match g t with
    | .keep => .eptr (some t) l off
    | .fz => .eptr none l off
    | .kill => .bad
  | .tup l => .tup (l.map (RV.act g))
  | x => x
structure Mv (K : CH) (E : TE) (g : Nat → SA) (K' : CH) (E' : TE) : Prop where
  frz : ∀ b, Frz K E b → Frz K' E' b ∧ K'.ob b = K.ob b
  keep : ∀ t b, E.σ t = some b → g t = .keep → E'.σ t = some b ∧ K'.ob b = K.ob b
  fz : ∀ t b, E.σ t = some b → g t = .fz → Frz K' E' b ∧ K'.ob b = K.ob b
  rho : ∀ o b, E.ρ o = some b → E'.ρ o = some b
variable {K K' : CH} {E E' : TE} {g : Nat → SA}
theorem CVR.mv (m : Mv K E g K' E') {x : CV} {v : Value} (h : CVR K E x v) : CVR K' E' (x.act g) v := by
  cases h with
  | s h => exact .s (h.mv m.frz)
  | @own0 t sz e =>
    show CVR K' E' (match g t with | .keep => .own t e sz [] | .fz => .s (rowS sz []) | .kill => .bad) _
    cases g t with
    | keep => exact .own0
    | fz => exact .s .row0
    | kill => exact .bad rfl
  | @own t b sz os e kd gs hne hb ho hk hg hs =>
    show CVR K' E' (match g t with | .keep => .own t e sz gs | .fz => .s (rowS sz gs) | .kill => .bad) _
    cases hgt : g t with
    | keep => exact .own hne (m.keep t b hb hgt).1 ((m.keep t b hb hgt).2.trans ho) hk hg (hs.mv m.frz)
    | fz => exact .s (.row hne (m.fz t b hb hgt).1 ((m.fz t b hb hgt).2.trans ho) hk hg (hs.mv m.frz))
    | kill => exact .bad rfl
  | bad h => exact .bad h
theorem RVR.mv (m : Mv K E g K' E') {x : RV} {v : Value} (h : RVR K E x v) : RVR K' E' (x.act g) v := by
  cases h with
  | c h => exact .c (h.mv m)
  | agg h => exact .agg (h.map fun _ _ q => q.mv m)
theorem AVR.mv (m : Mv K E g K' E') {x : AV} {v : Value} (h : AVR K E x v) : AVR K' E' (x.act g) v := by
  cases h with
  | r h => exact .r (h.mv m)
  | ptr h => exact .ptr (m.rho _ _ h)
  | @eptr t l off b base os e kd hb ho hl hs =>
    cases t with
    | none => exact .eptr (t := none) (m.frz b hb).1 ((m.frz b hb).2.trans ho) hl (hs.mono fun _ _ q => q.mv m.frz)
    | some t =>
      show AVR K' E' (match g t with | .keep => .eptr (some t) l off | .fz => .eptr none l off | .kill => .bad) _
      cases hgt : g t with
      | keep => exact .eptr (t := some t) (m.keep t b hb hgt).1 ((m.keep t b hb hgt).2.trans ho) hl (hs.mono fun _ _ q => q.mv m.frz)
      | fz => exact .eptr (t := none) (m.fz t b hb hgt).1 ((m.fz t b hb hgt).2.trans ho) hl (hs.mono fun _ _ q => q.mv m.frz)
      | kill => exact .bad
  | tup h => exact .tup (h.map fun _ _ q => q.mv m)
  | skip => exact .skip
  | bad => exact .bad
structure TS where
  nt : Nat
  obs : List (Nat × TypeId × List CV)
abbrev TFr := Nat → AV
def TS.act (g : Nat → SA) (s : TS) : TS := ⟨s.nt, s.obs.map fun (v, e, cs) => (v, e, cs.map (CV.act g))⟩
def TFr.act (g : Nat → SA) (fr : TFr) : TFr := fun t => (fr t).act g
structure TP where
  N : Nat → Prop
  M : Nat → CObj
structure TR (Z : TP) (K0 : CH) (sp : Option Nat) (K : CH) (st : TS) (fr : TFr) (cfr : Fr) (E : TE) : Prop where
  nx : K0.nx ≤ K.nx
  keep : ∀ b, b < K0.nx → sp ≠ some b → K.ob b = K0.ob b
  prot : ∀ b, Z.N b → b < K0.nx ∧ sp ≠ some b ∧ K.ob b = Z.M b
  hid : ∀ b, E.hid b → b < K0.nx ∧ sp ≠ some b
  sig : ∀ t b, E.σ t = some b → K0.nx ≤ b ∧ b < K.nx ∧ t < st.nt
  inj : ∀ t t' b, E.σ t = some b → E.σ t' = some b → t = t'
  sr : ∀ t o b, E.σ t = some b → E.ρ o ≠ some b
  rho : ∀ o b, E.ρ o = some b → b < K.nx ∧ (K0.nx ≤ b ∨ sp = some b) ∧ o < st.obs.length
  rinj : ∀ o o' b, E.ρ o = some b → E.ρ o' = some b → o = o'
  obs : ∀ o v e cs, st.obs[o]? = some (v, e, cs) → ∃ b os, E.ρ o = some b ∧ K.ob b = .cells os e .ex ∧ R2 (CVR K E) cs os
  frm : ∀ t, AVR K E (fr t) (cfr t)
end Can
end Go.Proofs.YtnankhlanilbbaaGreat
end
section
namespace Go.Proofs.YtnankhlanilbbaaGreat
namespace Can
open Go Go.RowKit
set_option linter.unusedSimpArgs false
set_option linter.unusedVariables false
theorem cells_cell {v : Value} (h : isCell v = true) : v.cells = #[v] := by cases v <;> first | rfl | cases h
theorem cell_val {v : Value} (h : isCell v = true) : isVal v = true := by cases v <;> first | rfl | cases h
abbrev cS (v : Value) : CV := .s (.sc v)
abbrev rS (v : Value) : AV := .r (.c (.s (.sc v)))
abbrev iS (n : Int) : AV := .r (.c (.s (.sc (.int .i64 n))))
def nzS : Nat := 5
def cN (v : Value) : CV := match v with
  | .slice none 0 0 => .s (.row nzS [])
  | v => .s (.sc v)
def zCV (z : List Value) : Option (List CV) := if z.all isCell = true then some (z.map cN) else none
def toAV (v : Value) : AV := match v with
  | .agg cs => match zCV cs.toList with
    | some l => .r (.agg l)
    | none => .bad
  | v => match isCell v with
    | true => .r (.c (cN v))
    | false => .bad
theorem cN_rel {K : CH} {E : TE} {v : Value} (h : isCell v = true) : CVR K E (cN v) v := by
  unfold cN
  split
  · exact .s .row0
  · exact .s (.sc h)
def AV.raw : AV → Option Value
  | .r (.c (.s (.sc v))) => some v
  | _ => none
def tev (fr : TFr) : Operand → AV
  | .tmp t => fr t
  | .const v => toAV v
  | _ => .bad
def AV.cvs : AV → Option (List CV)
  | .r (.c x) => some [x]
  | .r (.agg cs) => some cs
  | _ => none
def AV.rowOf : AV → Option (Option Nat × Option Nat × List (List SV))
  | .r (.c (.s (.row sz gs))) => some (none, some sz, gs)
  | .r (.c (.s (.sc (.slice none 0 0)))) => some (none, none, [])
  | .r (.c (.own t _ sz gs)) => some (some t, some sz, gs)
  | _ => none
def srcOk (sz : Nat) : Option Nat → Prop
  | none => True
  | some sz' => sz' = sz
instance {sz : Nat} : ∀ {o : Option Nat}, Decidable (srcOk sz o)
  | none => inferInstanceAs (Decidable True)
  | some sz' => inferInstanceAs (Decidable (sz' = sz))
def lenOf : AV → Option Nat
  | .r (.c (.s (.row _ gs))) => some gs.length
  | .r (.c (.own _ _ _ gs)) => some gs.length
  | .r (.c (.s (.sc (.slice _ n _)))) => some n
  | _ => none
def rops : POp → Option (List Operand)
  | .bin _ x y => some [x, y]
  | .eqb _ x y => some [x, y]
  | .un _ x => some [x]
  | .conv _ x => some [x]
  | .cstr x => some [x]
  | .sidx x i => some [x, i]
  | .lens x => some [x]
  | .mx _ x y => some [x, y]
  | .sstr x lo hi => some (x :: (lo.toList ++ hi.toList))
  | _ => none
def rev (fr : TFr) (x : Operand) : Value := ((tev fr x).raw).getD undef
def tbld : List CV → List (Nat × Nat × Option (List CV)) → Option (List CV)
  | z, [] => some z
  | z, (o, s, some cs) :: r => if cs.length = s ∧ o + s ≤ z.length then tbld (z.take o ++ cs ++ z.drop (o + s)) r else none
  | _, _ => none
def tpop (fr : TFr) : POp → Option AV
  | .mov x => some (tev fr x)
  | .pick c a b => match (tev fr c).raw with
    | some (.bool t) => some (if t = true then tev fr a else tev fr b)
    | _ => none
  | .off x d => match tev fr x with
    | .ptr o off => some (.ptr o (off + d))
    | .eptr t g off => some (.eptr t g (off + d))
    | _ => none
  | .nck x => match tev fr x with
    | .ptr o off => some (.ptr o off)
    | .eptr t g off => some (.eptr t g off)
    | _ => none
  | .fld x d n => match tev fr x, n with
    | .r (.agg cs), none => (cs[d]?).map fun x => .r (.c x)
    | .r (.agg cs), some m => if d + m ≤ cs.length then some (.r (.agg ((cs.drop d).take m))) else none
    | _, _ => none
  | .len x => (lenOf (tev fr x)).map fun n => iS n
  | .idx x i sz => match (tev fr x).rowOf, (tev fr i).raw with
    | some (t, z, gs), some (.int _ j) => if srcOk sz z ∧ 0 ≤ j then (gs[j.toNat]?).map fun g => .eptr t g 0 else none
    | _, _ => none
  | .ext x i => match tev fr x with
    | .tup l => (l[i]?).map .r
    | _ => none
  | .bld z ps => match zCV z with
    | some z => (tbld z (ps.map fun (o, s, x) => (o, s, (tev fr x).cvs))).map fun cs => .r (.agg cs)
    | none => none
  | x => match rops x with
    | some l => if l.all (fun y => (tev fr y).raw.isSome) = true then (pop (rev fr) x).map toAV else none
    | none => none
variable {K K' : CH} {E E' : TE} {fr : TFr} {cfr : Fr}
theorem zCV_rel : ∀ {z : List Value} {l : List CV}, zCV z = some l → R2 (CVR K E) l z := fun {z l} h => by
  unfold zCV at h
  split at h
  · rename_i ha
    injection h with h
    subst h
    induction z with
    | nil => exact .nil
    | cons v z ih =>
      rw [List.all_cons, Bool.and_eq_true] at ha
      exact .cons (cN_rel ha.1) (ih ha.2)
  · cases h
theorem toAV_rel {v : Value} : AVR K E (toAV v) v := by
  unfold toAV
  split
  · rename_i cs
    split
    · rename_i l hl
      exact .r (.agg (vs := cs.toList) (zCV_rel hl))
    · exact .bad
  · split
    · rename_i h; exact .r (.c (cN_rel h))
    · exact .bad
theorem raw_rel {a : AV} {u v : Value} (h : AVR K E a v) (hr : a.raw = some u) : v = u := by
  unfold AV.raw at hr
  split at hr
  · cases hr
    cases h with
    | r h =>
      cases h with
      | c h =>
        cases h with
        | s h => cases h with | sc h => rfl
  · cases hr
theorem tev_rel (hf : ∀ t, AVR K E (fr t) (cfr t)) (x : Operand) : AVR K E (tev fr x) (evF cfr x) := by
  cases x with
  | tmp t => exact hf t
  | const v => exact toAV_rel
  | _ => exact .bad
theorem cvs_rel {a : AV} {v : Value} (h : AVR K E a v) {l : List CV} (hr : a.cvs = some l) : R2 (CVR K E) l v.cells.toList ∧ isVal v = true := by
  unfold AV.cvs at hr
  split at hr
  · cases hr
    cases h with
    | r h => cases h with
      | c h => rw [cells_cell h.cell]; exact ⟨.cons h .nil, cell_val h.cell⟩
  · cases hr
    cases h with
    | r h => cases h with
      | agg h => exact ⟨h, rfl⟩
  · cases hr
theorem AVR.ptr_inv {o off : Nat} {v : Value} (h : AVR K E (.ptr o off) v) : ∃ l, E.ρ o = some l ∧ v = .pointer (some ⟨l, off, none⟩) := by
  cases h with
  | ptr h => exact ⟨_, h, rfl⟩
def Own (K : CH) (E : TE) (t : Option Nat) (b : Nat) : Prop := match t with
  | none => Frz K E b
  | some t => E.σ t = some b
theorem AVR.eptr_inv {t : Option Nat} {g : List SV} {off : Nat} {v : Value} (h : AVR K E (.eptr t g off) v) : ∃ b base os e kd, Own K E t b ∧ K.ob b = .cells os e kd ∧ base + g.length ≤ os.length ∧ R2 (SVR K (Frz K E)) g ((os.drop base).take g.length) ∧ v = .pointer (some ⟨b, base + off, none⟩) := by
  cases h with
  | eptr hb ho hl hs => exact ⟨_, _, _, _, _, hb, ho, hl, hs, rfl⟩
theorem flat_grp {α : Type} {sz : Nat} : ∀ {gs : List (List α)}, (∀ g ∈ gs, g.length = sz) → ∀ {j : Nat} {g : List α}, gs[j]? = some g → (gs.flatten.drop (j * sz)).take g.length = g ∧ j * sz + g.length ≤ gs.flatten.length
  | [], _, j, g, h => by simp at h
  | a :: gs, hg, 0, g, h => by
    simp at h; subst h
    simp
  | a :: gs, hg, j + 1, g, h => by
    have ha := hg a (by simp)
    have ih := flat_grp (gs := gs) (fun x hx => hg x (by simp [hx])) (j := j) (g := g) (by simpa using h)
    have e : (j + 1) * sz = a.length + j * sz := by rw [ha, Nat.add_mul]; omega
    have hd : (a ++ gs.flatten).drop (a.length + j * sz) = gs.flatten.drop (j * sz) := by rw [← List.drop_drop, List.drop_left]
    rw [List.flatten_cons, e, hd]
    exact ⟨ih.1, by rw [List.length_append]; omega⟩
theorem flat_len' {α : Type} {sz : Nat} : ∀ {gs : List (List α)}, (∀ g ∈ gs, g.length = sz) → gs.flatten.length = gs.length * sz
  | [], _ => by simp
  | a :: gs, hg => by
    rw [List.flatten_cons, List.length_append, flat_len' fun x hx => hg x (by simp [hx]), hg a (by simp), List.length_cons, Nat.add_mul]; omega
theorem row_rel {a : AV} {v : Value} (h : AVR K E a v) {t : Option Nat} {z : Option Nat} {gs : List (List SV)} (hr : a.rowOf = some (t, z, gs)) : (gs = [] ∧ v = .slice none 0 0) ∨ (gs ≠ [] ∧ gs.length ≤ maxLen) ∧ ∃ sz b os e kd, z = some sz ∧ Own K E t b ∧ K.ob b = .cells os e kd ∧ kd.isRo = false ∧ (∀ g ∈ gs, g.length = sz) ∧ SVRs K (Frz K E) gs.flatten os ∧ v = .slice (some ⟨b, 0, none⟩) gs.length gs.length := by
  unfold AV.rowOf at hr
  split at hr
  · cases hr
    cases h with
    | r h => cases h with
      | c h => cases h with
        | s h => cases h with
          | row0 => exact .inl ⟨rfl, rfl⟩
          | row hne hb ho hk hg hs => exact .inr ⟨hne, _, _, _, _, _, rfl, hb, ho, hk, hg, hs, rfl⟩
  · cases hr
    exact .inl ⟨rfl, raw_rel h rfl⟩
  · cases hr
    cases h with
    | r h => cases h with
      | c h => cases h with
        | own0 => exact .inl ⟨rfl, rfl⟩
        | own hne hb ho hk hg hs => exact .inr ⟨hne, _, _, _, _, _, rfl, hb, ho, hk, hg, hs, rfl⟩
  · cases hr
theorem len_rel {a : AV} {v : Value} (h : AVR K E a v) {n : Nat} (hr : lenOf a = some n) : ∃ q c, v = .slice q n c := by
  unfold lenOf at hr
  split at hr
  · rename_i sz gs
    cases hr
    rcases row_rel (t := none) (z := some sz) (gs := gs) h rfl with ⟨rfl, hv⟩ | ⟨_, _, _, _, _, _, _, _, _, _, _, _, hv⟩
    · exact ⟨_, _, hv⟩
    · exact ⟨_, _, hv⟩
  · rename_i t e sz gs
    cases hr
    rcases row_rel (t := some t) (z := some sz) (gs := gs) h rfl with ⟨rfl, hv⟩ | ⟨_, _, _, _, _, _, _, _, _, _, _, _, hv⟩
    · exact ⟨_, _, hv⟩
    · exact ⟨_, _, hv⟩
  · cases hr
    exact ⟨_, _, raw_rel h rfl⟩
  · cases hr
theorem R2.set {α : Type} {R : α → Value → Prop} {xs us : List α} {ys vs : List Value} (h : R2 R xs ys) (g : R2 R us vs) {o : Nat} : R2 R (xs.take o ++ us ++ xs.drop (o + us.length)) (setCells ys o vs) := by
  unfold setCells
  rw [g.len]
  exact ((h.take o).app g).app (h.drop _)
theorem tbld_rel : ∀ {ps : List (Nat × Nat × Option (List CV))} {qs : List (Nat × Nat × Value)} {z : List CV} {zs : List Value} {cs : List CV}, R2 (CVR K E) z zs → R2 (fun (p : Nat × Nat × Option (List CV)) (q : Nat × Nat × Value) => p.1 = q.1 ∧ p.2.1 = q.2.1 ∧ ∀ l, p.2.2 = some l → R2 (CVR K E) l q.2.2.cells.toList ∧ isVal q.2.2 = true) ps qs → tbld z ps = some cs → ∃ vs, bldV zs qs = some vs ∧ R2 (CVR K E) cs vs
  | [], _, z, zs, cs, hz, .nil, h => by
    cases h; exact ⟨zs, rfl, hz⟩
  | (o, s, none) :: ps, _, z, zs, cs, hz, .cons _ _, h => by cases h
  | (o, s, some l) :: ps, (o', s', v) :: qs, z, zs, cs, hz, .cons ⟨e1, e2, e3⟩ ht, h => by
    cases e1; cases e2
    obtain ⟨g1, g2⟩ := e3 l rfl
    simp only [tbld] at h
    split at h
    · rename_i hc
      have hsz : v.cells.size = s := by rw [← Array.length_toList, g1.len]; exact hc.1
      obtain ⟨vs, k1, k2⟩ := tbld_rel (zs := setCells zs o v.cells.toList) (by have := hz.set g1 (o := o); rw [hc.1] at this; exact this) ht h
      refine ⟨vs, ?_, k2⟩
      show (if isVal v = true ∧ v.cells.size = s ∧ o + s ≤ zs.length then bldV (setCells zs o v.cells.toList) qs else none) = _
      rw [if_pos ⟨g2, hsz, by rw [hz.len]; exact hc.2⟩]
      exact k1
    · cases h
theorem rpop_congr {ev ev' : Operand → Value} {x : POp} {l : List Operand} (h : rops x = some l) (he : ∀ y ∈ l, ev' y = ev y) : pop ev' x = pop ev x := by
  cases x <;> simp only [rops, Option.some.injEq, reduceCtorEq] at h <;> subst h
  case sstr x lo hi =>
    have hx := he x (by simp)
    have hl : ∀ d, bnd ev' d lo = bnd ev d lo := fun d => by
      cases lo with
      | none => rfl
      | some y => simp only [bnd, he y (by simp)]
    have hh : ∀ d, bnd ev' d hi = bnd ev d hi := fun d => by
      cases hi with
      | none => rfl
      | some y => simp only [bnd, he y (by simp)]
    simp only [pop, hx, hl, hh]
  all_goals simp only [List.mem_cons, List.mem_singleton, List.not_mem_nil, or_false, forall_eq_or_imp, forall_eq] at he
  all_goals simp only [pop, he]
theorem tpop_raw (hf : ∀ t, AVR K E (fr t) (cfr t)) {x : POp} {a : AV} (h : (match rops x with | some l => if l.all (fun y => (tev fr y).raw.isSome) = true then (pop (rev fr) x).map toAV else none | none => none) = some a) : ∃ v, pop (evF cfr) x = some v ∧ AVR K E a v := by
  split at h
  · rename_i l hl
    split at h
    · rename_i ha
      have he : ∀ y ∈ l, evF cfr y = rev fr y := fun y hy => by
        have := List.all_eq_true.1 ha y hy
        obtain ⟨u, hu⟩ := Option.isSome_iff_exists.1 this
        rw [raw_rel (tev_rel hf y) hu, rev, hu]; rfl
      rw [← rpop_congr hl he] at h
      cases hp : pop (evF cfr) x with
      | none => rw [hp] at h; cases h
      | some v => rw [hp] at h; cases h; exact ⟨v, rfl, toAV_rel⟩
    · cases h
  · cases h
theorem tpop_sound (hf : ∀ t, AVR K E (fr t) (cfr t)) {x : POp} {a : AV} (h : tpop fr x = some a) : ∃ v, pop (evF cfr) x = some v ∧ AVR K E a v := by
  cases x with
  | mov x => cases h; exact ⟨_, rfl, tev_rel hf x⟩
  | pick c x y =>
    simp only [tpop] at h
    split at h
    · rename_i t hc
      cases h
      have := raw_rel (tev_rel hf c) hc
      refine ⟨if t = true then evF cfr x else evF cfr y, by simp only [pop, this], ?_⟩
      cases t
      · exact tev_rel hf y
      · exact tev_rel hf x
    · cases h
  | off x d =>
    simp only [tpop] at h
    have hx := tev_rel hf x
    split at h
    · rename_i o off e
      cases h
      rw [e] at hx
      obtain ⟨l, hl, hv⟩ := hx.ptr_inv
      exact ⟨_, by simp only [pop, hv], .ptr hl⟩
    · rename_i t g off e
      cases h
      rw [e] at hx
      obtain ⟨b, base, os, ty, kd, hb, ho, hl, hs, hv⟩ := hx.eptr_inv
      exact ⟨.pointer (some ⟨b, base + (off + d), none⟩), by simp only [pop, hv, Nat.add_assoc], .eptr hb ho hl hs⟩
    · cases h
  | nck x =>
    simp only [tpop] at h
    have hx := tev_rel hf x
    split at h
    · rename_i o off e
      cases h
      rw [e] at hx
      obtain ⟨l, hl, hv⟩ := hx.ptr_inv
      exact ⟨_, by simp only [pop, hv], .ptr hl⟩
    · rename_i t g off e
      cases h
      rw [e] at hx
      obtain ⟨b, base, os, ty, kd, hb, ho, hl, hs, hv⟩ := hx.eptr_inv
      exact ⟨_, by simp only [pop, hv], .eptr hb ho hl hs⟩
    · cases h
  | fld x d n =>
    simp only [tpop] at h
    have hx := tev_rel hf x
    split at h
    · rename_i cs e
      rw [e] at hx
      cases hv : evF cfr x with
      | _ =>
        rw [hv] at hx
        cases hx
        rename_i hx
        cases hx
        try (
          rename_i vs hr
          cases hc : cs[d]? with
          | none => rw [hc] at h; cases h
          | some y =>
            rw [hc] at h; cases h
            obtain ⟨v, h1, h2⟩ := hr.get hc
            exact ⟨v, by simp only [pop, hv, partV, h1], .r (.c h2)⟩)
        try (rename_i hq; cases hq)
    · rename_i cs m e
      rw [e] at hx
      split at h
      · rename_i hle
        cases h
        cases hv : evF cfr x with
        | _ =>
          rw [hv] at hx
          cases hx
          rename_i hx
          cases hx
          try (
            rename_i vs hr
            exact ⟨_, by simp only [pop, hv, partV]; rw [if_pos (by rw [hr.len]; exact hle)], .r (.agg ((hr.drop d).take m))⟩)
          try (rename_i hq; cases hq)
      · cases h
    · cases h
  | len x =>
    simp only [tpop] at h
    have hx := tev_rel hf x
    cases hl : lenOf (tev fr x) with
    | none => rw [hl] at h; cases h
    | some n =>
      rw [hl] at h; cases h
      obtain ⟨q, c, hv⟩ := len_rel hx hl
      exact ⟨_, by simp only [pop, hv], .r (.c (.s (.sc rfl)))⟩
  | idx x i sz =>
    simp only [tpop] at h
    split at h
    · rename_i t z gs k j e1 e2
      split at h
      · rename_i hc
        obtain ⟨hz, hj⟩ := hc
        cases hg : gs[j.toNat]? with
        | none => rw [hg] at h; cases h
        | some g =>
          rw [hg] at h; cases h
          have hi := raw_rel (tev_rel hf i) e2
          have hlt := (List.getElem?_eq_some_iff.1 hg).1
          rcases row_rel (tev_rel hf x) e1 with ⟨rfl, hv⟩ | ⟨hne, sz', b, os, ty, kd, rfl, k1, k2, k3, k4, k5, hv⟩
          · simp at hg
          · cases hz
            obtain ⟨q1, q2⟩ := flat_grp k4 hg
            refine ⟨_, by simp only [pop, hv, hi]; rw [if_pos ⟨hj, by omega⟩], ?_⟩
            have hr := ((k5.r2.drop (j.toNat * sz)).take g.length)
            rw [q1] at hr
            rw [Nat.zero_add]
            exact .eptr (base := j.toNat * sz) (off := 0) k1 k2 (by rw [k5.r2.len]; exact q2) hr
      · cases h
    · cases h
  | ext x i =>
    simp only [tpop] at h
    have hx := tev_rel hf x
    split at h
    · rename_i l e
      rw [e] at hx
      cases hc : l[i]? with
      | none => rw [hc] at h; cases h
      | some y =>
        rw [hc] at h; cases h
        cases hv : evF cfr x with
        | _ =>
          rw [hv] at hx
          cases hx
          try (
            rename_i vs hr
            obtain ⟨v, h1, h2⟩ := hr.get hc
            exact ⟨v, by simp only [pop, hv]; simpa using h1, .r h2⟩)
    · cases h
  | bld z ps =>
    simp only [tpop] at h
    split at h
    · rename_i zc hz
      cases hb : tbld zc (ps.map fun (o, s, x) => (o, s, (tev fr x).cvs)) with
      | none => rw [hb] at h; cases h
      | some cs =>
        rw [hb] at h; cases h
        obtain ⟨vs, k1, k2⟩ := tbld_rel (K := K) (E := E) (qs := ps.map fun (o, s, x) => (o, s, evF cfr x)) (zCV_rel hz) (by
          clear hb
          induction ps with
          | nil => exact .nil
          | cons p ps ih => exact .cons ⟨rfl, rfl, fun l hl => cvs_rel (tev_rel hf p.2.2) hl⟩ ih) hb
        exact ⟨_, by simp only [pop]; rw [k1]; rfl, .r (.agg k2)⟩
    · cases h
  | _ => exact tpop_raw hf h
end Can
end Go.Proofs.YtnankhlanilbbaaGreat
end
