/- ScopeKeeps: for every argument the call returns true, and the arguments read as before. No other condition. -/
import Derived.Test.YticlaccbodpkeaaGreatDoorUj
import Derived.Test.YticlaccbodpkeaaGreatDoorUd
import Derived.Test.YticlaccbodpkeaaGreatDoorCards
import Derived.Test.YticlaccbodpkeaaGreatDoorTie
import Derived.JoinedCond
import Derived.Deep.CondSized
import Derived.ProofKit
import Derived.LaidMore
import Derived.OpenShut
import Derived.Stop.Joined
import Derived.SevenTiedAt
set_option linter.unusedSimpArgs false
set_option linter.unusedVariables false
namespace Go.Proofs.YticlaccbodpkeaaGreatDoor.scopeKeeps
open Go.ChangeShapes Go.WideShapes Go.ChangeAt Go.RowKit Can
theorem own : ownKnob Tryz.prog.godebug = none := by kernel_rfl
theorem laidOut : laidOutB Tryz.prog = true := by kernel_rfl
theorem aq7 {v : Value} {L : List Value} (h : (uC v).cells.toList = L) (hl : 2 ≤ L.length) : uC v = .agg L.toArray := by
  match L, hl with
  | a :: b :: r, _ => exact af6 h
theorem af7 {a : Option Addr} {n c : Nat} {v : Value} (h : (uC (.slice a n c)).cells.toList = [v]) : uC (.slice a n c) = v := by
  have h1 : (uC (.slice a n c)).cells.toList = [uC (.slice a n c)] := by
    have hz : uC (.slice a n c) = cz (.slice a n c) := rfl;rw [Y0, hz]; rfl
  rw [h1] at h;exact (List.cons.inj h).1
theorem af8 {W : World} {e : TypeId} {α : Type} {sz : Nat} {R : uD α} {a : Option Addr} {c : Nat} {xs : List α} (h : ig sz R (tC W) a c xs) : ri (tC W) e (.slice a xs.length c) = true := by
  rcases h with ⟨rfl, _, rfl | rfl | rfl⟩ | ⟨l, o, os, e, k, rfl, _, _, _, ak, _⟩
  · rfl
  · rfl
  · rfl
  · have yw : (match W.heap[l]? with | some (.cells cs _ _) => dD.cells (cs.toList.map (mask (kC W))) 0 .ro | some _ => .dead | none => .od) = dD.cells os e k := ak
    have : k = .ro := by
      split at yw <;> first | (cases yw; rfl) | cases yw
    subst this;simp only [ri, ak]
/-- The door's own heap meets bv condition. -/
theorem af9 (os : Os) (args : Array Value) : laidMetH Tryz.prog Rows.scopeKeepsRow.laid ((World.doorLaid Tryz.prog 4000 os).forCall (fun _ _ => 0) ⟨#[], args, []⟩).memory :=
  laidMetH_of_parts3 (fuel := 8) (laidMet_of_run' 8 Kr Kr) Kr Kr
set_option maxRecDepth 100000 in
theorem lifted (os : Os) (started : os.Started) (H : Type) (enc : TypeId × Value → H) :
    ReturnsInHanded {} Tryz.checked os 4 .any (fun w args => (Rows.scopeKeepsSpec.pre enc Tryz.prog Tryz.f4 [] false w args ∧ laidMetH Tryz.prog Rows.scopeKeepsRow.laid w) ∧ sizedMet enc Tryz.prog Tryz.f4 (OpenSpec.ofChange Rows.scopeKeepsSpec) false w args)
      (Rows.scopeKeepsSpec.post enc Tryz.prog Tryz.f4 false true false false) := by
  refine returnsInHanded_of_change_and (C := Tryz.checked) (X := fun w _ => laidMetH Tryz.prog Rows.scopeKeepsRow.laid w) (fun _ _ _ hh h => h.of_heap hh) own started Kr Tryz.func4
    (ChangeSpec.witness_shaped (enc := enc) (C := Tryz.checked) (os := os) (X := fun w _ => laidMetH Tryz.prog Rows.scopeKeepsRow.laid w) false (World.doorLaid Tryz.prog 4000 os) #[.slice none 0 0] 8 rfl (World.shaped_of_RefB Kr Kr) Kr Kr Kr (af9 os _)) ?_
  intro W base args ds gs before af' hW _ SF hL _;have DZ : ∀ (j : Nat) t v, Tryz.f4.params[j]? = some t → args[j]? = some v → Value.okWide Tryz.prog W .any base t v := af';have hW' := hW;obtain ⟨p, q, vV, hV, rfl, Gu, Ab⟩ := hW;have hA : DataW.TrodAll enc Tryz.prog W 0 (fun _ => true) true Tryz.f4.params.toList args.toList ds p := vV;have eN : (DataW.weightsEach Tryz.prog (Tryz.f4.params.toList ++ Rows.scopeKeepsSpec.plain.varTypes Tryz.prog) (ds ++ gs)).all (· ≤ reachBytes) = true := SF;rw [Tryz.params4] at hA DZ eN;obtain ⟨v0, vs0, d0, ds0, p0, q0, ni, rfl, rfl, h0, r0⟩ := trodAll_cons hA;obtain ⟨rfl, rfl, rfl⟩ := trodAll_nil r0
  obtain rfl : args = #[v0] := by cases args; simp_all
  obtain ⟨rfl, rfl⟩ := trodVars_none hV;have k0 := h0
  have lt0 : ∀ x ∈ p0, x.block < W.heap.size := by obtain ⟨m, hm⟩ := k0; exact DataW.trod_lt m _ _ _ hm
  have SF : (d0.weights Tryz.prog 22).all (· ≤ reachBytes) = true := aga (j := 0) eN rfl rfl;obtain ⟨sa0, sl0, sc0, rfl⟩ := okWide_slice Tryz.underlying22 (DZ 0 22 v0 rfl rfl);obtain ⟨agb, aq8, Y1, ⟨Y2, Y3, agc, Y4⟩, Gv, mu0⟩ := agd (age (sz := 1) Y5 Tryz.underlying22 Kr de (agf Y5 Tryz.underlying5 (k := .u8))) h0
  have h80 : Tryz.prog.bytesOf 5 = 1 := by kernel_rfl
  have Gw := (Gv SF).1;rw [h80] at Gw;have Ac : uC (.slice sa0 sl0 sc0) = .slice Y2 Y1.length Y3 := af7 agc;have ok0 : ri (tC W) 5 (.slice Y2 Y1.length Y3) = true := af8 Y4;have hc := agh (w := W) agi (aT.cons agb (aT.nil _)) (by rw [Ac]; exact agj (agk hL Kr (by simp [Rows.scopeKeepsRow])) Y4)
  refine Calls.mono hc fun e W' ⟨he, Y6⟩ => ?_
  subst he;exact ⟨_, rfl, _, _, _, [], _, [], hW', trodAll_mk1 (shut_bool Tryz.underlying4 _), (trodAll_cons_mk (Below.trod laidOut Kr (of_decide_eq_true Kr) k0 Y6 lt0) trodAll_mk0), rfl, Y6.frame _, fun h => by cases h⟩
theorem over : Rows.ScopeKeepsSaid :=
  OpenClaim.holds_of_wide 4 Tryz.f4 rfl rfl rfl rfl rfl rfl rfl ⟨rfl, rfl, rfl, rfl, rfl⟩ rfl rfl rfl rfl rfl Kr Tryz.func4 Kr
    (of_decide_eq_true Kr) (by unfold Func.isWrapper; first | (rw [if_pos (by decide +kernel)]; kernel_rfl) | (rw [if_neg (by decide +kernel)]; exact ⟨rfl, rfl⟩))
    (fun os started H enc _ => lifted os started H enc)
/-- The tied agl. -/
theorem proved : Rows.ScopeKeepsCardSaid :=
  Claim7.holds_tied_plain_at .later [] [.data, .data, .data] true (true, "99c07886b38e6b989f99f7b5b68125af9bedbde582701252a4ade810873a0eff") true
    over (fun _ h => by cases h) Kr (fun _ h => by cases h) scopeKeeps_row_tie rfl ⟨rfl, rfl⟩ Kr rfl
    (fun f fn hf uE => by
      obtain rfl : f = 4 := Option.some.inj ((show Tryz.prog.funcNamed "scree/screelaw07.ScopeKeeps" = some 4 by kernel_rfl).symm.trans hf) |>.symm
      obtain rfl : fn = Tryz.f4 := (Option.some.inj (Tryz.func4.symm.trans uE)).symm
      exact ⟨Kr, fun j t ht => by
        rw [Tryz.params4] at ht
        have hm : t ∈ [22] := by simpa using Array.mem_of_getElem? ht
        have iH : ([22].all fun u => !Tryz.prog.wantsStandIn u) = true := by kernel_rfl
        exact (show Tryz.prog.wantsStandIn t = false by simpa using List.all_eq_true.1 iH t hm)⟩)
    Kr
#print axioms proved
end Go.Proofs.YticlaccbodpkeaaGreatDoor.scopeKeeps
