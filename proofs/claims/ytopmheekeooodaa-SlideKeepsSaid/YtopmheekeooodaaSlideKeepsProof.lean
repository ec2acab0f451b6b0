/- SlideKeeps: for every argument the call returns true, and the arguments read as before. No other condition. -/
import Derived.Test.YtopmheekeooodaaSlKw
import Derived.Test.YtopmheekeooodaaCanRun
import Derived.JoinedCond
import Derived.Deep.CondSized
namespace Go.Proofs.Ytopmheekeooodaa.slideKeeps
open Go.ChangeShapes Go.WideShapes Go.ChangeAt Go.RowKit Can
set_option linter.unusedVariables false
set_option linter.unusedSimpArgs false

theorem own : ownKnob Try.prog.godebug = none := by kernel_rfl
theorem laidOut : laidOutB Try.prog = true := by kernel_rfl
theorem fn_of {v : Value} {L : List Value} (h : (czv v).cells.toList = L) (hl : 2 ≤ L.length) : czv v = .agg L.toArray := by
  match L, hl with
  | a :: b :: r, _ => exact agg_of h
theorem sl_of {a : Option Addr} {n c : Nat} {v : Value} (h : (czv (.slice a n c)).cells.toList = [v]) : czv (.slice a n c) = v := by
  have h1 : (czv (.slice a n c)).cells.toList = [czv (.slice a n c)] := by
    have hz : czv (.slice a n c) = cz (.slice a n c) := rfl
    rw [cells_czv, hz]; rfl
  rw [h1] at h
  exact (List.cons.inj h).1
theorem ok_of {W : World} {e : TypeId} {α : Type} {sz : Nat} {R : CRep α} {a : Option Addr} {c : Nat} {xs : List α} (h : SlAt sz R (heap0 W) a c xs) : okSl (heap0 W) e (.slice a xs.length c) = true := by
  rcases h with ⟨rfl, _, rfl | rfl | rfl⟩ | ⟨l, o, os, e, k, rfl, _, _, _, hob, _⟩
  · rfl
  · rfl
  · rfl
  · have hob' : (match W.heap[l]? with | some (.cells cs _ _) => CObj.cells (cs.toList.map (mask (beta0 W))) 0 .ro | some _ => .dead | none => .unborn) = CObj.cells os e k := hob
    have : k = .ro := by
      split at hob' <;> first | (cases hob'; rfl) | cases hob'
    subst this
    simp only [okSl, hob]

set_option maxRecDepth 100000 in
theorem lifted (os : Os) (started : os.Started) (H : Type) (enc : TypeId × Value → H) :
    ReturnsInHanded {} Try.checked os 3 .any (Rows.slideKeepsSpec.pre6 enc Try.prog Try.f3 Rows.slideKeepsRow.domain false) (Rows.slideKeepsSpec.post enc Try.prog Try.f3 false true false false) := by
  refine returnsInHanded_of_change_sized (C := Try.checked) own started (by kernel_rfl) Try.func3
    (ChangeSpec.witness6 (enc := enc) (C := Try.checked) false ⟨#[], #[.agg #[.slice none 0 0, .int .i64 0], .slice none 0 0], []⟩ 8 (by kernel_rfl) (by kernel_rfl) (by kernel_rfl) (by kernel_rfl)) ?_
  intro W base args ds gs before hval0 hW hcnd hsz0 _
  have hval : ∀ (j : Nat) t v, Try.f3.params[j]? = some t → args[j]? = some v → Value.okWide Try.prog W .any base t v := hval0
  have hW' := hW
  obtain ⟨p, q, hA0, hV, rfl, hfz, hnd⟩ := hW
  have hA : DataW.TrodAll enc Try.prog W 0 (fun _ => true) true Try.f3.params.toList args.toList ds p := hA0
  have hsz : (DataW.weightsEach Try.prog (Try.f3.params.toList ++ Rows.slideKeepsSpec.plain.varTypes Try.prog) (ds ++ gs)).all (· ≤ reachBytes) = true := hsz0
  rw [Try.params3] at hA hval hsz
  obtain ⟨v0, vs0, d0, ds0, p0, q0, hargs, rfl, rfl, h0, r0⟩ := trodAll_cons hA
  obtain ⟨v1, vs1, d1, ds1, p1, q1, rfl, rfl, rfl, h1, r1⟩ := trodAll_cons r0
  obtain ⟨rfl, rfl, rfl⟩ := trodAll_nil r1
  obtain rfl : args = #[v0, v1] := by cases args; simp_all
  obtain ⟨rfl, rfl⟩ := trodVars_none hV
  have k0 := h0
  have lt0 : ∀ x ∈ p0, x.block < W.heap.size := by obtain ⟨m, hm⟩ := k0; exact DataW.trod_lt m _ _ _ hm
  have hsz0 : (d0.weights Try.prog 24).all (· ≤ reachBytes) = true := sized_arg (j := 0) hsz rfl rfl
  obtain ⟨hvr0, hlen0, ⟨ws0, top0, _⟩, ⟨⟨qa0, ca0, ha0, sl0'⟩, ⟨htop0, ht0⟩, _⟩, hz0, mu0⟩ := co_trod (co_struct bulk_ok (R := CPair 1 (CSl 1 (CInt .u64)) (CPair 1 (CInt .i64) CUnit)) Try.underlying24 (by kernel_rfl) (co_cons rfl (by kernel_rfl) (co_slice bulk_ok Try.underlying22 (by kernel_rfl) (by decide) (co_int bulk_ok Try.underlying42)) (co_cons rfl (by kernel_rfl) (co_int bulk_ok Try.underlying3) co_nil))) h0
  have hcs0 : (czv v0).cells.toList = [.slice qa0 ws0.length ca0, .int .i64 top0] := by
    generalize (czv v0).cells.toList = L at hlen0 ha0 htop0
    match L, hlen0 with
    | [x, y], _ => simp at ha0 htop0; rw [ha0, htop0]
  have hv0 : czv v0 = .agg #[.slice qa0 ws0.length ca0, .int .i64 top0] := agg_of hcs0
  have hW0 : Words (heap0 W) qa0 ca0 ws0 := ⟨sl0', ok_of sl0'⟩
  have h80 : Try.prog.bytesOf 42 = 8 := by kernel_rfl
  have ln0 : ws0.length * Try.prog.bytesOf 42 ≤ reachBytes := (hz0 hsz0).1.1
  rw [h80] at ln0
  have k1 := h1
  have lt1 : ∀ x ∈ p1, x.block < W.heap.size := by obtain ⟨m, hm⟩ := k1; exact DataW.trod_lt m _ _ _ hm
  have hsz1 : (d1.weights Try.prog 22).all (· ≤ reachBytes) = true := sized_arg (j := 1) hsz rfl rfl
  obtain ⟨sa1, sl1, sc1, rfl⟩ := okWide_slice Try.underlying22 (hval 1 22 v1 rfl rfl)
  obtain ⟨hvr1, hlen1, xs1, ⟨qa1, ca1, hcs1, sl1'⟩, hz1, mu1⟩ := co_trod (co_slice (sz := 1) bulk_ok Try.underlying22 (by kernel_rfl) (by decide) (co_int bulk_ok Try.underlying42 (k := .u64))) h1
  have h81 : Try.prog.bytesOf 42 = 8 := by kernel_rfl
  have ln1 := (hz1 hsz1).1
  rw [h81] at ln1
  have hv1 : czv (.slice sa1 sl1 sc1) = .slice qa1 xs1.length ca1 := sl_of hcs1
  have ok1 : okSl (heap0 W) 42 (.slice qa1 xs1.length ca1) = true := ok_of sl1'
  have hc := calls_true (w := W) tk_ok (VRs.cons hvr0 (VRs.cons hvr1 (VRs.nil _))) (by rw [hv0, hv1]; exact keeps_law hW0 _ (bounds_i64 ht0).1 (bounds_i64 ht0).2 (by have := ln0; have e : reachBytes = 140737488351232 := rfl; omega) sl1' (by have := ln1; have e : reachBytes = 140737488351232 := rfl; omega))
  refine Calls.mono hc fun e W' ⟨he, bel⟩ => ?_
  subst he
  exact ⟨_, rfl, _, _, _, [], _, [], hW', trodAll_mk1 (shut_bool Try.underlying4 _), (trodAll_cons_mk (Below.trod laidOut (by kernel_rfl) (of_decide_eq_true (by kernel_rfl)) k0 bel lt0) (trodAll_cons_mk (Below.trod laidOut (by kernel_rfl) (of_decide_eq_true (by kernel_rfl)) k1 bel lt1) trodAll_mk0)), rfl, bel.frame _, fun h => by cases h⟩

theorem over : Rows.slideKeepsRow.holds Try.pinned (OpenSpec.ofChange Rows.slideKeepsSpec) :=
  OpenClaim.holds_of_wide 3 Try.f3 rfl rfl rfl rfl rfl rfl rfl ⟨rfl, rfl, rfl, rfl, rfl⟩ rfl rfl rfl rfl rfl (by kernel_rfl) Try.func3 (by kernel_rfl)
    (of_decide_eq_true (by kernel_rfl)) (by unfold Func.isWrapper; first | (rw [if_pos (by decide +kernel)]; kernel_rfl) | (rw [if_neg (by decide +kernel)]; exact ⟨rfl, rfl⟩))
    (fun os started H enc _ => lifted os started H enc)

theorem proved : Rows.SlideKeepsSaid := over
#print axioms proved
end Go.Proofs.Ytopmheekeooodaa.slideKeeps
