/- ScopeFinds: for every argument the call returns true, and the arguments read as before; the listed variables are tied to the program's text. -/
import Derived.Test.YtcebkmjbhdhgaaaGreatDoorFdW
import Derived.Test.YtcebkmjbhdhgaaaGreatDoorCanRun
import Derived.Test.YtcebkmjbhdhgaaaGreatDoorCards
import Derived.Test.YtcebkmjbhdhgaaaGreatDoorTie
import Derived.JoinedCond
import Derived.Deep.CondSized
import Derived.ProofKit
import Derived.LaidMore
import Derived.OpenShut
import Derived.Stop.Joined
import Derived.SevenTiedAt
namespace Go.Proofs.YtcebkmjbhdhgaaaGreatDoor.scopeFinds
open Go.ChangeShapes Go.WideShapes Go.ChangeAt Go.RowKit Can
set_option linter.unusedVariables false
set_option linter.unusedSimpArgs false

theorem own : ownKnob Tryz.prog.godebug = none := by kernel_rfl
theorem laidOut : laidOutB Tryz.prog = true := by kernel_rfl
theorem sl_of {a : Option Addr} {n c : Nat} {v : Value} (h : (czv (.slice a n c)).cells.toList = [v]) : czv (.slice a n c) = v := by
  have h1 : (czv (.slice a n c)).cells.toList = [czv (.slice a n c)] := by
    have hz : czv (.slice a n c) = cz (.slice a n c) := rfl
    rw [cells_czv, hz]; rfl
  rw [h1] at h
  exact (List.cons.inj h).1
/-- The door's own heap meets the condition. -/
theorem door_met (os : Os) (args : Array Value) : laidMetH Tryz.prog Rows.scopeFindsRow.laid ((World.doorLaid Tryz.prog 4000 os).forCall (fun _ _ => 0) ⟨#[], args, []⟩).memory :=
  laidMetH_of_parts3 (fuel := 8) (laidMet_of_run' 8 (by kernel_rfl) (by kernel_rfl)) (by kernel_rfl) (by kernel_rfl)
set_option maxRecDepth 100000 in
theorem lifted (os : Os) (started : os.Started) (H : Type) (enc : TypeId × Value → H) :
    ReturnsInHanded {} Tryz.checked os 3 .any (fun w args => (Rows.scopeFindsSpec.pre enc Tryz.prog Tryz.f3 [] false w args ∧ laidMetH Tryz.prog Rows.scopeFindsRow.laid w) ∧ sizedMet enc Tryz.prog Tryz.f3 (OpenSpec.ofChange Rows.scopeFindsSpec) false w args)
      (Rows.scopeFindsSpec.post enc Tryz.prog Tryz.f3 false true false false) := by
  refine returnsInHanded_of_change_and (C := Tryz.checked) (X := fun w _ => laidMetH Tryz.prog Rows.scopeFindsRow.laid w) (fun _ _ _ hh h => h.of_heap hh) own started (by kernel_rfl) Tryz.func3
    (ChangeSpec.witness_shaped (enc := enc) (C := Tryz.checked) (os := os) (X := fun w _ => laidMetH Tryz.prog Rows.scopeFindsRow.laid w) false (World.doorLaid Tryz.prog 4000 os) #[.slice none 0 0, .int .i64 0, .string .empty] 8 rfl (World.shaped_of_RefB (by kernel_rfl) (by kernel_rfl)) (by kernel_rfl) (by kernel_rfl) (by kernel_rfl) (door_met os _)) ?_
  intro W base args ds gs before hval0 hW _ _ hL _
  have hval : ∀ (j : Nat) t v, Tryz.f3.params[j]? = some t → args[j]? = some v → Value.okWide Tryz.prog W .any base t v := hval0
  have hW' := hW
  obtain ⟨p, q, hA0, hV, rfl, hfz, hnd⟩ := hW
  have hA : DataW.TrodAll enc Tryz.prog W 0 (fun _ => true) true Tryz.f3.params.toList args.toList ds p := hA0
  rw [Tryz.params3] at hA hval
  obtain ⟨v0, vs0, d0, ds0, p0, q0, hargs, rfl, rfl, h0, r0⟩ := trodAll_cons hA
  obtain ⟨v1, vs1, d1, ds1, p1, q1, rfl, rfl, rfl, h1, r1⟩ := trodAll_cons r0
  obtain ⟨v2, vs2, d2, ds2, p2, q2, rfl, rfl, rfl, h2, r2⟩ := trodAll_cons r1
  obtain ⟨rfl, rfl, rfl⟩ := trodAll_nil r2
  obtain rfl : args = #[v0, v1, v2] := by cases args; simp_all
  obtain ⟨rfl, rfl⟩ := trodVars_none hV
  have k0 := h0
  have lt0 : ∀ x ∈ p0, x.block < W.heap.size := by obtain ⟨m, hm⟩ := k0; exact DataW.trod_lt m _ _ _ hm
  obtain ⟨sa0, sl0, sc0, rfl⟩ := okWide_slice Tryz.underlying22 (hval 0 22 v0 rfl rfl)
  obtain ⟨hvr0, hlen0, xs0, ⟨qa0, ca0, hcs0, sl0'⟩, hz0, mu0⟩ := co_trod (co_slice (R := CSc) (sz := 7) bulk_ok Tryz.underlying22 (by kernel_rfl) (by decide)
    (co_struct bulk_ok (R := CSc) Tryz.underlying29 (by kernel_rfl) (co_cons rfl (by kernel_rfl) (co_string bulk_ok Tryz.underlying9) (co_cons rfl (by kernel_rfl) (co_int bulk_ok Tryz.underlying3)
      (co_cons rfl (by kernel_rfl) (co_slice bulk_ok Tryz.underlying27 (by kernel_rfl) (by decide) (co_string bulk_ok Tryz.underlying9))
      (co_cons rfl (by kernel_rfl) (co_slice bulk_ok Tryz.underlying27 (by kernel_rfl) (by decide) (co_string bulk_ok Tryz.underlying9))
      (co_cons rfl (by kernel_rfl) (co_slice bulk_ok Tryz.underlying27 (by kernel_rfl) (by decide) (co_string bulk_ok Tryz.underlying9))
      (co_cons rfl (by kernel_rfl) (co_slice bulk_ok Tryz.underlying27 (by kernel_rfl) (by decide) (co_string bulk_ok Tryz.underlying9))
      (co_cons rfl (by kernel_rfl) (co_bool bulk_ok Tryz.underlying4) co_nil))))))))) h0
  have hv0 : czv (.slice sa0 sl0 sc0) = .slice qa0 xs0.length ca0 := sl_of hcs0
  obtain ⟨a1, rfl, rfl, rfl, w1⟩ := open_int Tryz.underlying3 (hval 1 3 v1 rfl rfl) h1
  have k2 := h2
  have lt2 : ∀ x ∈ p2, x.block < W.heap.size := by obtain ⟨m, hm⟩ := k2; exact DataW.trod_lt m _ _ _ hm
  obtain ⟨s2, rfl⟩ := okWide_string Tryz.underlying9 (hval 2 9 v2 rfl rfl)
  obtain ⟨hvr2, hlen2, x2, hcs2, hz2, mu2⟩ := co_trod (co_string bulk_ok Tryz.underlying9) h2
  obtain rfl : s2 = x2 := by have g := hcs2.1; have e : (czv (.string s2)).cells.toList = [.string s2] := rfl; rw [e] at g; cases g; rfl
  have hv2 : czv (.string s2) = .string s2 := rfl
  have hc := calls_true (w := W) tg_ok (VRs.cons hvr0 (VRs.cons (.int .i64 a1) (VRs.cons hvr2 (VRs.nil _)))) (by rw [hv0, hv2]; exact finds_law sl0' a1 s2)
  refine Calls.mono hc fun e W' ⟨he, bel⟩ => ?_
  subst he
  exact ⟨_, rfl, _, _, _, [], _, [], hW', trodAll_mk1 (shut_bool Tryz.underlying4 _), (trodAll_cons_mk (Below.trod laidOut (by kernel_rfl) (of_decide_eq_true (by kernel_rfl)) k0 bel lt0) (trodAll_cons_mk (shut_int Tryz.underlying3 w1) (trodAll_cons_mk (Below.trod laidOut (by kernel_rfl) (of_decide_eq_true (by kernel_rfl)) k2 bel lt2) trodAll_mk0))), rfl, bel.frame _, fun h => by cases h⟩

theorem over : Rows.ScopeFindsSaid :=
  OpenClaim.holds_of_wide 3 Tryz.f3 rfl rfl rfl rfl rfl rfl rfl ⟨rfl, rfl, rfl, rfl, rfl⟩ rfl rfl rfl rfl rfl (by kernel_rfl) Tryz.func3 (by kernel_rfl)
    (of_decide_eq_true (by kernel_rfl)) (by unfold Func.isWrapper; first | (rw [if_pos (by decide +kernel)]; kernel_rfl) | (rw [if_neg (by decide +kernel)]; exact ⟨rfl, rfl⟩))
    (fun os started H enc _ => lifted os started H enc)

/-- The tied card. -/
theorem proved : Rows.ScopeFindsCardSaid :=
  Claim7.holds_tied_plain_at .later [] [.data, .data, .data] true (true, "320df6aa520c3d7ea3390f5fb25cdef3f92853d569c1b1177f7b526948f3129d") false
    over (fun _ h => by cases h) (by kernel_rfl) (fun _ h => by cases h) scopeFinds_row_tie rfl ⟨rfl, rfl⟩ (by kernel_rfl) rfl
    (fun f fn hf hfn => by
      obtain rfl : f = 3 := Option.some.inj ((show Tryz.prog.funcNamed "scree/screelaw07.ScopeFinds" = some 3 by kernel_rfl).symm.trans hf) |>.symm
      obtain rfl : fn = Tryz.f3 := (Option.some.inj (Tryz.func3.symm.trans hfn)).symm
      exact ⟨by kernel_rfl, fun j t ht => by
        rw [Tryz.params3] at ht
        have hm : t ∈ [22, 3, 9] := by simpa using Array.mem_of_getElem? ht
        have hall : ([22, 3, 9].all fun u => !Tryz.prog.wantsStandIn u) = true := by kernel_rfl
        exact (show Tryz.prog.wantsStandIn t = false by simpa using List.all_eq_true.1 hall t hm)⟩)
    (by kernel_rfl)
#print axioms proved
end Go.Proofs.YtcebkmjbhdhgaaaGreatDoor.scopeFinds
