/- Canonical runs: regions that draw their order: proved. Over any program. -/
import Derived.Test.YtmpojphjongdcaaCanQ
namespace Go.Proofs.Ytmpojphjongdcaa
namespace Can
open Go Go.RowKit
set_option linter.unusedSimpArgs false
set_option linter.unusedVariables false
variable {P : Program} {B : Nat}
section
variable {N : Nat} {ops : Array Oper} {d : DReg} {S : DS P N ops d} {h : Hd} {β0 : Nat → Ent} {w0 : World} {fr' : Fr} {H' : CH} {β : Nat → Ent} {fr : Fr} {H : CH} {R : List Nat} {lag : List (Nat × Nat)} {l : List CH} {m : Nat} {a : Act} {w : World}
theorem LagF.lt {N : Nat} {it : Item} {b : Nat} (h : LagF P B N w0 β fr a w it b) : b < w.heap.size := by
  obtain ⟨_, _, _, _, _, _, _, _, _, _, _, _, _, _, h6, _⟩ := h.ex
  exact (Array.getElem?_eq_some_iff.1 h6).1
theorem put_other {a : Act} {d : Option Nat} {v : Value} {t : Nat} (h : d ≠ some t) : (a.put d v).tmps.getD t undef = a.tmps.getD t undef := by
  cases d with
  | none => rfl
  | some x =>
    have hne : x ≠ t := fun e => h (by rw [e])
    simp only [Act.put, Array.getD_eq_getD_getElem?, Array.getElem?_setIfInBounds_ne hne]
/-- Facts of memory made ahead, behind another operation. -/
theorem Core.lagNext (C : Core S B h β0 w0 fr' H' β fr H R lag l m a w) {i : Nat} (hi : i < ops.size) (hiR : i ∈ R) (hil : ¬ ∃ q ∈ lag, q.1 = i) {β' : Nat → Ent} {w' : World} {v v' : Value} (hx : EntExt β β') (hk : ∀ b, b < w.heap.size → Out β b → w'.heap[b]? = w.heap[b]? ∧ Out β' b) :
    ∀ p ∈ lag, LagF P B N w0 β' (putF fr (S.its i).dst v) (a.put (S.its i).dst v') w' (S.its p.1) p.2 := fun p hp => by
  have hF := C.lagF p hp
  obtain ⟨k1, k2⟩ := hk _ hF.lt hF.out
  obtain ⟨hpR, hpA⟩ := C.lagR p hp
  have hpl := C.lt _ hpR
  have hne : p.1 ≠ i := fun e => hil ⟨p, hp, e⟩
  refine hF.keep hx k1 k2 (fun t ht => putF_other fun e => ?_) (fun t ht => put_other fun e => hne (S.dd _ _ t hpl hi ht e))
  rcases S.d2 i p.1 t hi hpl hne.symm e ht with q | ⟨_, q⟩
  · rcases C.lagAnc p hp i q with g | g
    · exact g hiR
    · exact hil g
  · rw [hpA] at q; cases q
theorem Core.frNext (C : Core S B h β0 w0 fr' H' β fr H R lag l m a w) {i : Nat} {β' : Nat → Ent} {v : Value} {a' : Act} (hf : FR β' N (putF (patch S lag fr) (S.its i).dst v) a') :
    ∀ t, (∃ p ∈ lag, (S.its p.1).dst = some t) ∨ VR β' (putF fr (S.its i).dst v t) (a'.tmps.getD t undef) := fun t => by
  by_cases hl : ∃ p ∈ lag, (S.its p.1).dst = some t
  · exact .inl hl
  · right
    have := hf.2 t
    by_cases e : (S.its i).dst = some t
    · rw [e] at this ⊢
      simpa only [putF, if_true] using this
    · rw [putF_other e] at this ⊢
      unfold patch at this
      rwa [if_neg hl] at this
theorem Core.nextQuiet {R1 R2 : List Nat} {i : Nat} (C : Core S B h β0 w0 fr' H' β fr H (R1 ++ i :: R2) lag l m a w) (hil : ¬ ∃ q ∈ lag, q.1 = i) (hiW : isW (S.its i).op = false) {v v' : Value} {β' : Nat → Ent} {w' : World}
    (hrun : runD h ((R1 ++ R2).map S.its) (putF fr (S.its i).dst v) H = some (fr', H', l)) (hS : Sim P B β' H w') (hE : Evo β w β' w') (hf : FR β' N (putF (patch S lag fr) (S.its i).dst v) (a.put (S.its i).dst v')) :
    Core S B h β0 w0 fr' H' β' (putF fr (S.its i).dst v) H (R1 ++ R2) lag l m (a.put (S.its i).dst v') w' := by
  obtain ⟨p1, p2, p3⟩ := pw_mem C.srt
  have hi : i < ops.size := C.lt i (by simp)
  have sub : ∀ z, z ∈ R1 ++ R2 → z ∈ R1 ++ i :: R2 := fun z hz => by rcases List.mem_append.1 hz with hz | hz <;> simp [hz]
  have eqv : ∀ z, z ≠ i → (z ∈ R1 ++ R2 ↔ z ∈ R1 ++ i :: R2) := fun z hz => by simp only [List.mem_append, List.mem_cons, hz, false_or]
  have hWi : ∀ y, isW (S.its y).op = true → y ≠ i := fun y hy e => by rw [e, hiW] at hy; cases hy
  refine ⟨fun z hz => C.lt z (sub z hz), p3, fun p hp => ?_, C.lagNext hi (by simp) hil hE.ext hE.keep, C.lagD, fun p hp j hj => ?_, C.lagU, hrun, hS, C.evo.trans hE, hf.1, C.frNext hf, fun y hy hyW => ?_, C.mW, fun y hy hyW hyR z hz hzp g => ?_, fun r hr s hs c1 c2 c3 => C.chk r (sub r hr) s hs c1 c2 c3⟩
  · exact ⟨(eqv _ fun e => hil ⟨p, hp, e⟩).2 (C.lagR p hp).1, (C.lagR p hp).2⟩
  · rcases C.lagAnc p hp j hj with g | g
    · exact .inl fun q => g (sub _ q)
    · exact .inr g
  · rw [← C.done y hy hyW, eqv y (hWi y hyW)]
  · exact C.past y hy hyW (fun q => hyR ((eqv y (hWi y hyW)).2 q)) z hz hzp (sub z g)
theorem Core.nextLag {i : Nat} (C : Core S B h β0 w0 fr' H' β fr H R lag l m a w) (hi : i < ops.size) (hiR : i ∈ R) (hil : ¬ ∃ q ∈ lag, q.1 = i) (hiA : isA (S.its i).op = true) (hanc : ∀ j, Anc ops i j → Ex R lag j) (hfeed : ∀ q ∈ lag, ∀ t, (S.its q.1).dst = some t → t ∉ (S.its i).uses)
    {v' : Value} {w' : World} {o : Obj} (hw : w'.heap = w.heap.push o) (hos : w'.os = w.os) (htp : w'.tape = w.tape) (hout : w'.output = w.output) (hN : ∀ t, (S.its i).dst = some t → t < N) (hF : LagF P B N w0 β fr (a.put (S.its i).dst v') w' (S.its i) w.heap.size) :
    Core S B h β0 w0 fr' H' β fr H R ((i, w.heap.size) :: lag) l m (a.put (S.its i).dst v') w' := by
  have hold : ∀ b, b < w.heap.size → Out β b → w'.heap[b]? = w.heap[b]? ∧ Out β b := fun b hb ho => ⟨by rw [hw, Array.getElem?_push, if_neg (by omega)], ho⟩
  have hE : Evo β w β w' := ⟨hos, htp, hout, by rw [hw]; simp, hold, EntExt.refl β⟩
  have hown : ∀ p ∈ lag, LagF P B N w0 β fr (a.put (S.its i).dst v') w' (S.its p.1) p.2 := fun p hp => by
    have hF := C.lagF p hp
    obtain ⟨k1, k2⟩ := hold _ hF.lt hF.out
    exact hF.keep (EntExt.refl β) k1 k2 (fun t ht => rfl) (fun t ht => put_other fun e => hil ⟨p, hp, S.dd _ _ t (C.lt _ (C.lagR p hp).1) hi ht e⟩)
  refine ⟨C.lt, C.srt, fun p hp => ?_, fun p hp => ?_, ?_, fun p hp j hj => ?_, fun p hp q hq t ht => ?_, C.run, C.sim.push hw, C.evo.trans hE, ?_, fun t => ?_, C.done, C.mW, C.past, C.chk⟩
  · rcases List.mem_cons.1 hp with rfl | hp
    · exact ⟨hiR, hiA⟩
    · exact C.lagR p hp
  · rcases List.mem_cons.1 hp with rfl | hp
    · exact hF
    · exact hown p hp
  · rw [List.pairwise_cons]
    refine ⟨fun p hp => ⟨fun e => hil ⟨p, hp, e.symm⟩, fun e => ?_⟩, C.lagD⟩
    have := (C.lagF p hp).lt
    simp only at e
    omega
  · have lift : Ex R lag j → j ∉ R ∨ ∃ q ∈ (i, w.heap.size) :: lag, q.1 = j := by
      rintro (g | ⟨q, g1, g2⟩)
      · exact .inl g
      · exact .inr ⟨q, List.mem_cons_of_mem _ g1, g2⟩
    rcases List.mem_cons.1 hp with rfl | hp
    · exact lift (hanc j hj)
    · exact lift (C.lagAnc p hp j hj)
  · rcases List.mem_cons.1 hp with rfl | hp <;> rcases List.mem_cons.1 hq with rfl | hq
    · exact S.d2' _ t hi hiA ht
    · exact hfeed q hq t ht
    · intro hu
      have hpR := (C.lagR p hp).1
      rcases S.d2 i p.1 t hi (C.lt _ hpR) (fun e => hil ⟨p, hp, e.symm⟩) ht hu with q | ⟨_, q⟩
      · rcases C.lagAnc p hp i q with g | g
        · exact g hiR
        · exact hil g
      · rw [(C.lagR p hp).2] at q; cases q
    · exact C.lagU p hp q hq t ht
  · have := C.size
    cases (S.its i).dst <;> simpa [Act.put] using this
  · by_cases e : (S.its i).dst = some t
    · exact .inl ⟨_, List.mem_cons_self .., e⟩
    · rw [put_other e]
      rcases C.fr t with ⟨p, g1, g2⟩ | g
      · exact .inl ⟨p, List.mem_cons_of_mem _ g1, g2⟩
      · exact .inr g
theorem Core.rank {R2 : List Nat} {i : Nat} (C : Core S B h β0 w0 fr' H' β fr H (i :: R2) lag l m a w) (hiW : isW (S.its i).op = true) (hanc : ∀ j, Anc ops i j → Ex (i :: R2) lag j) : S.rk i = m := by
  have hi : i < ops.size := C.lt i (by simp)
  have h1 : ¬ S.rk i < m := fun g => ((C.done i hi hiW).2 g) (by simp)
  rcases Nat.lt_or_ge m (S.rk i) with g | g
  · obtain ⟨y, y1, y2, y3⟩ := S.rk2 i m hi hiW g
    have hp := S.rk1 y i y1 hi y2 hiW (by omega)
    rcases hanc y (S.d4 y i y1 hi hiW hp) with q | q
    · have := (C.done y y1 y2).1 q; omega
    · exact absurd q (C.wlag y2)
  · omega
theorem Core.nextW {R2 : List Nat} {i : Nat} (C : Core S B h β0 w0 fr' H' β fr H (i :: R2) lag l m a w) (hiW : isW (S.its i).op = true) (hrk : S.rk i = m) {v v' : Value} {β' : Nat → Ent} {w' : World} {H1 : CH} {l2 : List CH} (hl : l = H1 :: l2)
    (hrun : runD h (R2.map S.its) (putF fr (S.its i).dst v) H1 = some (fr', H', l2)) (hS : Sim P B β' H1 w') (hE : Evo β w β' w') (hf : FR β' N (putF (patch S lag fr) (S.its i).dst v) (a.put (S.its i).dst v')) :
    Core S B h β0 w0 fr' H' β' (putF fr (S.its i).dst v) H1 R2 lag l2 (m + 1) (a.put (S.its i).dst v') w' := by
  have hi : i < ops.size := C.lt i (by simp)
  have hil := C.wlag hiW
  have hsrt := C.srt
  rw [List.pairwise_cons] at hsrt
  have eqv : ∀ z, z ≠ i → (z ∈ R2 ↔ z ∈ i :: R2) := fun z hz => by simp only [List.mem_cons, hz, false_or]
  have hni : i ∉ R2 := fun g => absurd (hsrt.1 i g) (Nat.lt_irrefl _)
  refine ⟨fun z hz => C.lt z (List.mem_cons_of_mem _ hz), hsrt.2, fun p hp => ?_, C.lagNext hi (by simp) hil hE.ext hE.keep, C.lagD, fun p hp j hj => ?_, C.lagU, hrun, hS, C.evo.trans hE, hf.1, C.frNext hf, fun y hy hyW => ?_, fun q hq => ?_, fun y hy hyW hyR z hz hzp g => ?_, fun r hr s hs c1 c2 c3 => ?_⟩
  · exact ⟨(eqv _ fun e => hil ⟨p, hp, e⟩).2 (C.lagR p hp).1, (C.lagR p hp).2⟩
  · rcases C.lagAnc p hp j hj with g | g
    · exact .inl fun q => g (List.mem_cons_of_mem _ q)
    · exact .inr g
  · by_cases e : y = i
    · subst e
      exact ⟨fun _ => by omega, fun _ => hni⟩
    · rw [eqv y e, C.done y hy hyW]
      constructor
      · intro g; omega
      · intro g
        rcases Nat.lt_or_ge (S.rk y) m with q | q
        · exact q
        · exact absurd (S.rk3 y i hy hi hyW hiW (by omega)) e
  · by_cases e : q = m
    · exact ⟨i, hi, hiW, by omega⟩
    · exact C.mW q (by omega)
  · by_cases e : y = i
    · subst e
      have := hsrt.1 z g; omega
    · exact C.past y hy hyW (fun q => hyR ((eqv y e).2 q)) z hz hzp (List.mem_cons_of_mem _ g)
  · obtain ⟨G, z1, z2⟩ := C.chk r (List.mem_cons_of_mem _ hr) s hs c1 c2 (by omega)
    refine ⟨G, ?_, z2⟩
    rw [hl] at z1
    rw [show s - m = (s - (m + 1)) + 1 by omega, List.getElem?_cons_succ] at z1
    exact z1
end
end Can
end Go.Proofs.Ytmpojphjongdcaa
