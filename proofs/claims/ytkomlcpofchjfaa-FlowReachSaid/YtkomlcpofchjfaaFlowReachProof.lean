/- FlowReach: for every argument the call returns true, and the arguments read as before. No condition. -/
import Derived.Test.YtkomlcpofchjfaaFlRchLaw
import Derived.Test.YtkomlcpofchjfaaFlOpen
namespace Go.Proofs.Ytkomlcpofchjfaa.flowReach
open Go.ChangeShapes Go.WideShapes Go.ChangeAt Go.RowKit Can
set_option linter.unusedVariables false
set_option linter.unusedSimpArgs false

theorem own : ownKnob Try.prog.godebug = none := by kernel_rfl
theorem laidOut : laidOutB Try.prog = true := by kernel_rfl
theorem fn_of {v : Value} {L : List Value} (h : (czv v).cells.toList = L) (hl : 2 ≤ L.length) : czv v = .agg L.toArray := by
  match L, hl with
  | a :: b :: r, _ => exact agg_of h

set_option maxRecDepth 100000 in
theorem lifted (os : Os) (started : os.Started) (H : Type) (enc : TypeId × Value → H) :
    ReturnsInHanded {} Try.checked os 8 .any (Rows.flowReachSpec.pre6 enc Try.prog Try.f8 Rows.flowReachRow.domain false) (Rows.flowReachSpec.post enc Try.prog Try.f8 false true false false) := by
  refine returnsInHanded_of_change_sized (C := Try.checked) own started (by kernel_rfl) Try.func8
    (ChangeSpec.witness6 (enc := enc) (C := Try.checked) false ⟨#[], #[.agg #[.string .empty, .int .i64 0, .int .i64 0, .int .i64 0, .bool false, .int .i64 0, .slice none 0 0, .slice none 0 0, .slice none 0 0, .slice none 0 0]], []⟩ 8 (by kernel_rfl) (by kernel_rfl) (by kernel_rfl) (by kernel_rfl)) ?_
  intro W base args ds gs before hval0 hW hcnd hsz0 _
  have hval : ∀ (j : Nat) t v, Try.f8.params[j]? = some t → args[j]? = some v → Value.okWide Try.prog W .any base t v := hval0
  have hW' := hW
  obtain ⟨p, q, hA0, hV, rfl, hfz, hnd⟩ := hW
  have hA : DataW.TrodAll enc Try.prog W 0 (fun _ => true) true Try.f8.params.toList args.toList ds p := hA0
  have hsz : (DataW.weightsEach Try.prog (Try.f8.params.toList ++ Rows.flowReachSpec.plain.varTypes Try.prog) (ds ++ gs)).all (· ≤ reachBytes) = true := hsz0
  rw [Try.params8] at hA hval hsz
  obtain ⟨v0, vs0, d0, ds0, p0, q0, hargs, rfl, rfl, h0, r0⟩ := trodAll_cons hA
  obtain ⟨rfl, rfl, rfl⟩ := trodAll_nil r0
  obtain rfl : args = #[v0] := by cases args; simp_all
  obtain ⟨rfl, rfl⟩ := trodVars_none hV
  have k0 := h0
  have lt0 : ∀ x ∈ p0, x.block < W.heap.size := by obtain ⟨m, hm⟩ := k0; exact DataW.trod_lt m _ _ _ hm
  have hsz0 : (d0.weights Try.prog 27).all (· ≤ reachBytes) = true := sized_arg (j := 0) hsz rfl rfl
  obtain ⟨hvr0, hlen0, F, ⟨A, hcs0, hF0⟩, hz0, _⟩ := co_trod co_fn h0
  have hF := hF0.ok (hz0 hsz0)
  have hv0 : czv v0 = .agg (fnC F A).toArray := fn_of hcs0 (by simp [fnC])
  have hc := calls_true (w := W) tg_ok (VRs.cons hvr0 (VRs.nil _)) (by rw [hv0]; exact reachlaw_wp hF)
  refine Calls.mono hc fun e W' ⟨he, bel⟩ => ?_
  subst he
  exact ⟨_, rfl, _, _, _, [], _, [], hW', trodAll_mk1 (shut_bool Try.underlying4 _), (trodAll_cons_mk (Below.trod laidOut (by kernel_rfl) (of_decide_eq_true (by kernel_rfl)) k0 bel lt0) trodAll_mk0), rfl, bel.frame _, fun h => by cases h⟩

theorem over : Rows.flowReachRow.holds Try.pinned (OpenSpec.ofChange Rows.flowReachSpec) :=
  OpenClaim.holds_of_wide 8 Try.f8 rfl rfl rfl rfl rfl rfl rfl ⟨rfl, rfl, rfl, rfl, rfl⟩ rfl rfl rfl rfl rfl (by kernel_rfl) Try.func8 (by kernel_rfl)
    (of_decide_eq_true (by kernel_rfl)) (by unfold Func.isWrapper; first | (rw [if_pos (by decide +kernel)]; kernel_rfl) | (rw [if_neg (by decide +kernel)]; exact ⟨rfl, rfl⟩))
    (fun os started H enc _ => lifted os started H enc)

theorem proved : Rows.FlowReachSaid := over
#print axioms proved
end Go.Proofs.Ytkomlcpofchjfaa.flowReach
