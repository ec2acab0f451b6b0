/- ShowAlike: for every argument the call returns true, and the arguments read as before. No other condition. -/
import Derived.Test.YtdfgkcoenagaaaaGreatZs
import Derived.Test.YtdfgkcoenagaaaaGreatZd
import Derived.Test.YtdfgkcoenagaaaaGreatRows
import Derived.JoinedCond
import Derived.Deep.CondSized
namespace Go.Proofs.YtdfgkcoenagaaaaGreat.showAlike
open Go.ChangeShapes Go.WideShapes Go.ChangeAt Go.RowKit Can
set_option linter.unusedVariables false
set_option linter.unusedSimpArgs false
theorem own : ownKnob Tryz.prog.godebug = none := by kernel_rfl
theorem laidOut : laidOutB Tryz.prog = true := by kernel_rfl
theorem fn_of {v : Value} {L : List Value} (h : (czv v).cells.toList = L) (hl : 2 ≤ L.length) : czv v = .agg L.toArray := by
  match L, hl with
  | a :: b :: r, _ => exact agg_of h
theorem sl_of {a : Option Addr} {n c : Nat} {v : Value} (h : (czv (.slice a n c)).cells.toList = [v]) : czv (.slice a n c) = v := by
  have h1 : (czv (.slice a n c)).cells.toList = [czv (.slice a n c)] := by
    have hz : czv (.slice a n c) = cz (.slice a n c) := rfl
    rw [cells_czv, hz]; rfl
  rw [h1] at h
  exact (List.cons.inj h).1
theorem ok_of {W : World} {e : TypeId} {α : Type} {sz : Nat} {R : CRep α} {a : Option Addr} {c : Nat} {xs : List α} (h : SlAt sz R (heap0 W) a c xs) : okSl (heap0 W) e (.slice a xs.length c) = true := by
  rcases h with ⟨rfl, _, rfl | rfl | rfl⟩ | ⟨l, o, os, e, k, rfl, _, _, _, hob, _⟩
  · rfl
  · rfl
  · rfl
  · have hob' : (match W.heap[l]? with | some (.cells cs _ _) => CObj.cells (cs.toList.map (mask (beta0 W))) 0 .ro | some _ => .dead | none => .unborn) = CObj.cells os e k := hob
    have : k = .ro := by
      split at hob' <;> first | (cases hob'; rfl) | cases hob'
    subst this
    simp only [okSl, hob]
set_option maxRecDepth 100000 in
theorem lifted (os : Os) (started : os.Started) (H : Type) (enc : TypeId × Value → H) :
    ReturnsInHanded {} Tryz.checked os 4 .any (Rows.showAlikeSpec.pre6 enc Tryz.prog Tryz.f4 Rows.showAlikeRow.domain false) (Rows.showAlikeSpec.post enc Tryz.prog Tryz.f4 false true false false) := by
  refine returnsInHanded_of_change_sized (C := Tryz.checked) own started (by kernel_rfl) Tryz.func4
    (ChangeSpec.witness6 (enc := enc) (C := Tryz.checked) false ⟨#[], #[.slice none 0 0, .slice none 0 0], []⟩ 8 (by kernel_rfl) (by kernel_rfl) (by kernel_rfl) (by kernel_rfl)) ?_
  intro W base args ds gs before hval0 hW hcnd hsz0 _
  have hval : ∀ (j : Nat) t v, Tryz.f4.params[j]? = some t → args[j]? = some v → Value.okWide Tryz.prog W .any base t v := hval0
  have hW' := hW
  obtain ⟨p, q, hA0, hV, rfl, hfz, hnd⟩ := hW
  have hA : DataW.TrodAll enc Tryz.prog W 0 (fun _ => true) true Tryz.f4.params.toList args.toList ds p := hA0
  have hsz : (DataW.weightsEach Tryz.prog (Tryz.f4.params.toList ++ Rows.showAlikeSpec.plain.varTypes Tryz.prog) (ds ++ gs)).all (· ≤ reachBytes) = true := hsz0
  rw [Tryz.params4] at hA hval hsz
  obtain ⟨v0, vs0, d0, ds0, p0, q0, hargs, rfl, rfl, h0, r0⟩ := trodAll_cons hA
  obtain ⟨v1, vs1, d1, ds1, p1, q1, rfl, rfl, rfl, h1, r1⟩ := trodAll_cons r0
  obtain ⟨rfl, rfl, rfl⟩ := trodAll_nil r1
  obtain rfl : args = #[v0, v1] := by cases args; simp_all
  obtain ⟨rfl, rfl⟩ := trodVars_none hV
  have k0 := h0
  have lt0 : ∀ x ∈ p0, x.block < W.heap.size := by obtain ⟨m, hm⟩ := k0; exact DataW.trod_lt m _ _ _ hm
  have hsz0 : (d0.weights Tryz.prog 22).all (· ≤ reachBytes) = true := sized_arg (j := 0) hsz rfl rfl
  obtain ⟨sa0, sl0, sc0, rfl⟩ := okWide_slice Tryz.underlying22 (hval 0 22 v0 rfl rfl)
  obtain ⟨hvr0, hlen0, xs0, ⟨qa0, ca0, hcs0, sl0'⟩, hz0, mu0⟩ := co_trod (co_slice (sz := 1) bulk_ok Tryz.underlying22 (by kernel_rfl) (by decide) (co_int bulk_ok Tryz.underlying5 (k := .u8))) h0
  have h80 : Tryz.prog.bytesOf 5 = 1 := by kernel_rfl
  have ln0 := (hz0 hsz0).1
  rw [h80] at ln0
  have hv0 : czv (.slice sa0 sl0 sc0) = .slice qa0 xs0.length ca0 := sl_of hcs0
  have ok0 : okSl (heap0 W) 5 (.slice qa0 xs0.length ca0) = true := ok_of sl0'
  have k1 := h1
  have lt1 : ∀ x ∈ p1, x.block < W.heap.size := by obtain ⟨m, hm⟩ := k1; exact DataW.trod_lt m _ _ _ hm
  have hsz1 : (d1.weights Tryz.prog 22).all (· ≤ reachBytes) = true := sized_arg (j := 1) hsz rfl rfl
  obtain ⟨sa1, sl1, sc1, rfl⟩ := okWide_slice Tryz.underlying22 (hval 1 22 v1 rfl rfl)
  obtain ⟨hvr1, hlen1, xs1, ⟨qa1, ca1, hcs1, sl1'⟩, hz1, mu1⟩ := co_trod (co_slice (sz := 1) bulk_ok Tryz.underlying22 (by kernel_rfl) (by decide) (co_int bulk_ok Tryz.underlying5 (k := .u8))) h1
  have h81 : Tryz.prog.bytesOf 5 = 1 := by kernel_rfl
  have ln1 := (hz1 hsz1).1
  rw [h81] at ln1
  have hv1 : czv (.slice sa1 sl1 sc1) = .slice qa1 xs1.length ca1 := sl_of hcs1
  have ok1 : okSl (heap0 W) 5 (.slice qa1 xs1.length ca1) = true := ok_of sl1'
  have hc := calls_true (w := W) tl_ok (VRs.cons hvr0 (VRs.cons hvr1 (VRs.nil _))) (by rw [hv0, hv1]; exact alike_law' sl0' sl1')
  refine Calls.mono hc fun e W' ⟨he, bel⟩ => ?_
  subst he
  exact ⟨_, rfl, _, _, _, [], _, [], hW', trodAll_mk1 (shut_bool Tryz.underlying4 _), (trodAll_cons_mk (Below.trod laidOut (by kernel_rfl) (of_decide_eq_true (by kernel_rfl)) k0 bel lt0) (trodAll_cons_mk (Below.trod laidOut (by kernel_rfl) (of_decide_eq_true (by kernel_rfl)) k1 bel lt1) trodAll_mk0)), rfl, bel.frame _, fun h => by cases h⟩
theorem over : Rows.showAlikeRow.holds Tryz.pinned (OpenSpec.ofChange Rows.showAlikeSpec) :=
  OpenClaim.holds_of_wide 4 Tryz.f4 rfl rfl rfl rfl rfl rfl rfl ⟨rfl, rfl, rfl, rfl, rfl⟩ rfl rfl rfl rfl rfl (by kernel_rfl) Tryz.func4 (by kernel_rfl)
    (of_decide_eq_true (by kernel_rfl)) (by unfold Func.isWrapper; first | (rw [if_pos (by decide +kernel)]; kernel_rfl) | (rw [if_neg (by decide +kernel)]; exact ⟨rfl, rfl⟩))
    (fun os started H enc _ => lifted os started H enc)
theorem proved : Rows.ShowAlikeSaid := over
#print axioms proved
end Go.Proofs.YtdfgkcoenagaaaaGreat.showAlike
