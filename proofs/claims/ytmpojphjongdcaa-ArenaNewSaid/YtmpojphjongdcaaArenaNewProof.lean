/- ArenaNew: for every argument the call returns true, and the arguments read as before. No condition. -/
import Derived.Test.YtmpojphjongdcaaArNewLaw
namespace Go.Proofs.Ytmpojphjongdcaa.arenaNew
open Go.ChangeShapes Go.WideShapes Go.ChangeAt Go.RowKit Can
set_option linter.unusedVariables false
set_option linter.unusedSimpArgs false

theorem own : ownKnob Try.prog.godebug = none := by kernel_rfl
theorem laidOut : laidOutB Try.prog = true := by kernel_rfl

set_option maxRecDepth 100000 in
theorem lifted (os : Os) (started : os.Started) (H : Type) (enc : TypeId × Value → H) :
    ReturnsInHanded {} Try.checked os 3 .any (Rows.arenaNewSpec.pre6 enc Try.prog Try.f3 Rows.arenaNewRow.domain false) (Rows.arenaNewSpec.post enc Try.prog Try.f3 false true false false) := by
  refine returnsInHanded_of_change (C := Try.checked) own started (by kernel_rfl) Try.func3
    (ChangeSpec.witness6 (enc := enc) (C := Try.checked) false ⟨#[], #[.int .i64 0, .agg #[.slice none 0 0, .int .i64 0]], []⟩ 8 (by kernel_rfl) (by kernel_rfl) (by kernel_rfl) (by kernel_rfl)) ?_
  intro W base args ds gs before hval0 hW hcnd _
  have hval : ∀ (j : Nat) t v, Try.f3.params[j]? = some t → args[j]? = some v → Value.okWide Try.prog W .any base t v := hval0
  have hW' := hW
  obtain ⟨p, q, hA0, hV, rfl, hfz, hnd⟩ := hW
  have hA : DataW.TrodAll enc Try.prog W 0 (fun _ => true) true Try.f3.params.toList args.toList ds p := hA0
  rw [Try.params3] at hA hval
  obtain ⟨v1, vs1, d1, ds1, p1, q1, hargs, rfl, rfl, h1, r1⟩ := trodAll_cons hA
  obtain ⟨v0, vs0, d0, ds0, p0, q0, rfl, rfl, rfl, h0, r0⟩ := trodAll_cons r1
  obtain ⟨rfl, rfl, rfl⟩ := trodAll_nil r0
  obtain rfl : args = #[v1, v0] := by cases args; simp_all
  obtain ⟨rfl, rfl⟩ := trodVars_none hV
  obtain ⟨a1, rfl, rfl, rfl, w1⟩ := open_int Try.underlying3 (hval 0 3 v1 rfl rfl) h1
  have b1 := bounds_i64 w1
  have k0 := h0
  have lt0 : ∀ x ∈ p0, x.block < W.heap.size := by obtain ⟨m, hm⟩ := k0; exact DataW.trod_lt m _ _ _ hm
  obtain ⟨hvr, hlen, ⟨ws, top, _⟩, ⟨a, c, ha, hsl⟩, ⟨htop, hwf⟩, _⟩ := copens_trod (copens_struct (R := CPair 1 (CSl 1 (CInt .u64)) (CPair 1 (CInt .i64) CUnit)) Try.underlying24 (by kernel_rfl) (copens_cons rfl (by kernel_rfl) (copens_slice Try.underlying22 (by kernel_rfl) (by decide) (copens_int Try.underlying33)) (copens_cons rfl (by kernel_rfl) (copens_int Try.underlying3) copens_nil))) h0
  have hcells : (czv v0).cells.toList = [.slice a ws.length c, .int .i64 top] := by
    generalize (czv v0).cells.toList = L at hlen ha htop
    match L, hlen with
    | [x, y], _ => simp at ha htop; rw [ha, htop]
  have hv : czv v0 = .agg #[.slice a ws.length c, .int .i64 top] := agg_of hcells
  have hok : okSl (heap0 W) 33 (.slice a ws.length c) = true := by
    rcases hsl with ⟨_, _, rfl | rfl | rfl⟩ | ⟨l, o, os, e, k, rfl, _, _, _, hob, _⟩
    · rfl
    · rfl
    · rfl
    · have hob' : (match W.heap[l]? with | some (.cells cs _ _) => CObj.cells (cs.toList.map (mask (beta0 W))) 0 .ro | some _ => .dead | none => .unborn) = CObj.cells os e k := hob
      have : k = .ro := by
        split at hob' <;> first | (cases hob'; rfl) | cases hob'
      subst this
      simp only [okSl, hob]
  have hb := bounds_i64 hwf
  have hl : ws.length ≤ 9223372036854775807 := by
    rcases hsl with ⟨h, _⟩ | ⟨l, o, os, e, k, _, _, h1, h2, _⟩
    · simp only at h; rw [h]; decide
    · rw [maxLen_eq] at h2; exact Nat.le_trans h1 h2
  have hc := calls_true (T := tbl Try.prog) (w := W) tbl_ok (VRs.cons (.int .i64 a1) (VRs.cons hvr (VRs.nil _))) (by rw [hv]; exact newlaw_wp ⟨hsl, hok⟩ a1 top b1.1 b1.2 hb.1 hb.2 hl)
  refine Calls.mono hc fun e W' ⟨he, bel⟩ => ?_
  subst he
  exact ⟨_, rfl, _, _, _, [], _, [], hW', trodAll_mk1 (shut_bool Try.underlying4 _), (trodAll_cons_mk (shut_int Try.underlying3 w1) (trodAll_cons_mk (Below.trod laidOut (by kernel_rfl) (of_decide_eq_true (by kernel_rfl)) k0 bel lt0) trodAll_mk0)), rfl, bel.frame _, fun h => by cases h⟩

theorem over : Rows.arenaNewRow.holds Try.pinned (OpenSpec.ofChange Rows.arenaNewSpec) :=
  OpenClaim.holds_of_wide 3 Try.f3 rfl rfl rfl rfl rfl rfl rfl ⟨rfl, rfl, rfl, rfl, rfl⟩ rfl rfl rfl rfl rfl (by kernel_rfl) Try.func3 (by kernel_rfl)
    (of_decide_eq_true (by kernel_rfl)) (by unfold Func.isWrapper; first | (rw [if_pos (by decide +kernel)]; kernel_rfl) | (rw [if_neg (by decide +kernel)]; exact ⟨rfl, rfl⟩))
    (fun os started H enc _ => lifted os started H enc)

theorem proved : Rows.ArenaNewSaid := over
#print axioms proved
end Go.Proofs.Ytmpojphjongdcaa.arenaNew
