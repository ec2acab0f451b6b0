/- ScopeRenames: for every argument the call returns true, and the arguments read as before. No other condition. -/
import Derived.Test.YticlaccbodpkeaaGreatDoorXh
import Derived.Test.YticlaccbodpkeaaGreatDoorXd
import Derived.Test.YticlaccbodpkeaaGreatDoorCards
import Derived.Test.YticlaccbodpkeaaGreatDoorTie
import Derived.JoinedCond
import Derived.Deep.CondSized
import Derived.ProofKit
import Derived.LaidMore
import Derived.OpenShut
import Derived.Stop.Joined
import Derived.SevenTiedAt
namespace Go.Proofs.YticlaccbodpkeaaGreatDoor.scopeRenames
open Go.ChangeShapes Go.WideShapes Go.ChangeAt Go.RowKit Can
set_option linter.unusedVariables false
set_option linter.unusedSimpArgs false
theorem own : ownKnob Tryz.prog.godebug = none := by kernel_rfl
theorem laidOut : laidOutB Tryz.prog = true := by kernel_rfl
theorem fn_of {v : Value} {L : List Value} (h : (czv v).cells.toList = L) (hl : 2 ≤ L.length) : czv v = .agg L.toArray := by
  match L, hl with
  | a :: b :: r, _ => exact agg_of h
theorem sl_of {a : Option Addr} {n c : Nat} {v : Value} (h : (czv (.slice a n c)).cells.toList = [v]) : czv (.slice a n c) = v := by
  have h1 : (czv (.slice a n c)).cells.toList = [czv (.slice a n c)] := by
    have hz : czv (.slice a n c) = cz (.slice a n c) := rfl
    rw [cells_czv, hz]; rfl
  rw [h1] at h
  exact (List.cons.inj h).1
theorem ok_of {W : World} {e : TypeId} {α : Type} {sz : Nat} {R : CRep α} {a : Option Addr} {c : Nat} {xs : List α} (h : SlAt sz R (heap0 W) a c xs) : okSl (heap0 W) e (.slice a xs.length c) = true := by
  rcases h with ⟨rfl, _, rfl | rfl | rfl⟩ | ⟨l, o, os, e, k, rfl, _, _, _, hob, _⟩
  · rfl
  · rfl
  · rfl
  · have hob' : (match W.heap[l]? with | some (.cells cs _ _) => CObj.cells (cs.toList.map (mask (beta0 W))) 0 .ro | some _ => .dead | none => .unborn) = CObj.cells os e k := hob
    have : k = .ro := by
      split at hob' <;> first | (cases hob'; rfl) | cases hob'
    subst this
    simp only [okSl, hob]
/-- The door's own heap meets the condition. -/
theorem door_met (os : Os) (args : Array Value) : laidMetH Tryz.prog Rows.scopeRenamesRow.laid ((World.doorLaid Tryz.prog 4000 os).forCall (fun _ _ => 0) ⟨#[], args, []⟩).memory :=
  laidMetH_of_parts3 (fuel := 8) (laidMet_of_run' 8 (by kernel_rfl) (by kernel_rfl)) (by kernel_rfl) (by kernel_rfl)
set_option maxRecDepth 100000 in
theorem lifted (os : Os) (started : os.Started) (H : Type) (enc : TypeId × Value → H) :
    ReturnsInHanded {} Tryz.checked os 3 .any (fun w args => (Rows.scopeRenamesSpec.pre enc Tryz.prog Tryz.f3 [] false w args ∧ laidMetH Tryz.prog Rows.scopeRenamesRow.laid w) ∧ sizedMet enc Tryz.prog Tryz.f3 (OpenSpec.ofChange Rows.scopeRenamesSpec) false w args)
      (Rows.scopeRenamesSpec.post enc Tryz.prog Tryz.f3 false true false false) := by
  refine returnsInHanded_of_change_and (C := Tryz.checked) (X := fun w _ => laidMetH Tryz.prog Rows.scopeRenamesRow.laid w) (fun _ _ _ hh h => h.of_heap hh) own started (by kernel_rfl) Tryz.func3
    (ChangeSpec.witness_shaped (enc := enc) (C := Tryz.checked) (os := os) (X := fun w _ => laidMetH Tryz.prog Rows.scopeRenamesRow.laid w) false (World.doorLaid Tryz.prog 4000 os) #[.slice none 0 0] 8 rfl (World.shaped_of_RefB (by kernel_rfl) (by kernel_rfl)) (by kernel_rfl) (by kernel_rfl) (by kernel_rfl) (door_met os _)) ?_
  intro W base args ds gs before hval0 hW _ hsz0 hL _
  have hval : ∀ (j : Nat) t v, Tryz.f3.params[j]? = some t → args[j]? = some v → Value.okWide Tryz.prog W .any base t v := hval0
  have hW' := hW
  obtain ⟨p, q, hA0, hV, rfl, hfz, hnd⟩ := hW
  have hA : DataW.TrodAll enc Tryz.prog W 0 (fun _ => true) true Tryz.f3.params.toList args.toList ds p := hA0
  have hsz : (DataW.weightsEach Tryz.prog (Tryz.f3.params.toList ++ Rows.scopeRenamesSpec.plain.varTypes Tryz.prog) (ds ++ gs)).all (· ≤ reachBytes) = true := hsz0
  rw [Tryz.params3] at hA hval hsz
  obtain ⟨v0, vs0, d0, ds0, p0, q0, hargs, rfl, rfl, h0, r0⟩ := trodAll_cons hA
  obtain ⟨rfl, rfl, rfl⟩ := trodAll_nil r0
  obtain rfl : args = #[v0] := by cases args; simp_all
  obtain ⟨rfl, rfl⟩ := trodVars_none hV
  have k0 := h0
  have lt0 : ∀ x ∈ p0, x.block < W.heap.size := by obtain ⟨m, hm⟩ := k0; exact DataW.trod_lt m _ _ _ hm
  have hsz0 : (d0.weights Tryz.prog 22).all (· ≤ reachBytes) = true := sized_arg (j := 0) hsz rfl rfl
  obtain ⟨sa0, sl0, sc0, rfl⟩ := okWide_slice Tryz.underlying22 (hval 0 22 v0 rfl rfl)
  obtain ⟨hvr0, hlen0, xs0, ⟨qa0, ca0, hcs0, sl0'⟩, hz0, mu0⟩ := co_trod (co_slice (sz := 1) bulk_ok Tryz.underlying22 (by kernel_rfl) (by decide) (co_int bulk_ok Tryz.underlying5 (k := .u8))) h0
  have h80 : Tryz.prog.bytesOf 5 = 1 := by kernel_rfl
  have ln0 := (hz0 hsz0).1
  rw [h80] at ln0
  have hv0 : czv (.slice sa0 sl0 sc0) = .slice qa0 xs0.length ca0 := sl_of hcs0
  have ok0 : okSl (heap0 W) 5 (.slice qa0 xs0.length ca0) = true := ok_of sl0'
  have hc := calls_true (w := W) tR_ok (VRs.cons hvr0 (VRs.nil _)) (by rw [hv0]; exact renames_law' (pow_of hL (by kernel_rfl) (by simp [Rows.scopeRenamesRow])) sl0')
  refine Calls.mono hc fun e W' ⟨he, bel⟩ => ?_
  subst he
  exact ⟨_, rfl, _, _, _, [], _, [], hW', trodAll_mk1 (shut_bool Tryz.underlying4 _), (trodAll_cons_mk (Below.trod laidOut (by kernel_rfl) (of_decide_eq_true (by kernel_rfl)) k0 bel lt0) trodAll_mk0), rfl, bel.frame _, fun h => by cases h⟩
theorem over : Rows.ScopeRenamesSaid :=
  OpenClaim.holds_of_wide 3 Tryz.f3 rfl rfl rfl rfl rfl rfl rfl ⟨rfl, rfl, rfl, rfl, rfl⟩ rfl rfl rfl rfl rfl (by kernel_rfl) Tryz.func3 (by kernel_rfl)
    (of_decide_eq_true (by kernel_rfl)) (by unfold Func.isWrapper; first | (rw [if_pos (by decide +kernel)]; kernel_rfl) | (rw [if_neg (by decide +kernel)]; exact ⟨rfl, rfl⟩))
    (fun os started H enc _ => lifted os started H enc)
/-- The tied card. -/
theorem proved : Rows.ScopeRenamesCardSaid :=
  Claim7.holds_tied_plain_at .later [] [.data, .data, .data] true (true, "99c07886b38e6b989f99f7b5b68125af9bedbde582701252a4ade810873a0eff") true
    over (fun _ h => by cases h) (by kernel_rfl) (fun _ h => by cases h) scopeRenames_row_tie rfl ⟨rfl, rfl⟩ (by kernel_rfl) rfl
    (fun f fn hf hfn => by
      obtain rfl : f = 3 := Option.some.inj ((show Tryz.prog.funcNamed "scree/screelaw07.ScopeRenames" = some 3 by kernel_rfl).symm.trans hf) |>.symm
      obtain rfl : fn = Tryz.f3 := (Option.some.inj (Tryz.func3.symm.trans hfn)).symm
      exact ⟨by kernel_rfl, fun j t ht => by
        rw [Tryz.params3] at ht
        have hm : t ∈ [22] := by simpa using Array.mem_of_getElem? ht
        have hall : ([22].all fun u => !Tryz.prog.wantsStandIn u) = true := by kernel_rfl
        exact (show Tryz.prog.wantsStandIn t = false by simpa using List.all_eq_true.1 hall t hm)⟩)
    (by kernel_rfl)
#print axioms proved
end Go.Proofs.YticlaccbodpkeaaGreatDoor.scopeRenames
