/- ScopeClosed: for every argument the call returns true, and the arguments read as before. No other condition. -/
import Derived.Test.YticlaccbodpkeaaGreatDoorVj
import Derived.Test.YticlaccbodpkeaaGreatDoorVd
import Derived.Test.YticlaccbodpkeaaGreatDoorCards
import Derived.Test.YticlaccbodpkeaaGreatDoorTie
import Derived.JoinedCond
import Derived.Deep.CondSized
import Derived.ProofKit
import Derived.LaidMore
import Derived.OpenShut
import Derived.Stop.Joined
import Derived.SevenTiedAt
set_option linter.unusedSimpArgs false
set_option linter.unusedVariables false
namespace Go.Proofs.YticlaccbodpkeaaGreatDoor.scopeClosed
open Go.ChangeShapes Go.WideShapes Go.ChangeAt Go.RowKit Can
theorem own : ownKnob Tryz.prog.godebug = none := by kernel_rfl
theorem laidOut : laidOutB Tryz.prog = true := by kernel_rfl
theorem arD {v : Value} {L : List Value} (h : (uP v).cells.toList = L) (hl : 2 ≤ L.length) : uP v = .agg L.toArray := by
  match L, hl with
  | a :: b :: r, _ => exact agl h
theorem agm {a : Option Addr} {n c : Nat} {v : Value} (h : (uP (.slice a n c)).cells.toList = [v]) : uP (.slice a n c) = v := by
  have h1 : (uP (.slice a n c)).cells.toList = [uP (.slice a n c)] := by
    have hz : uP (.slice a n c) = cz (.slice a n c) := rfl;rw [YF, hz]; rfl
  rw [h1] at h;exact (List.cons.inj h).1
theorem agn {W : World} {e : TypeId} {α : Type} {sz : Nat} {R : uQ α} {a : Option Addr} {c : Nat} {xs : List α} (h : gU sz R (tU W) a c xs) : pT (tU W) e (.slice a xs.length c) = true := by
  rcases h with ⟨rfl, _, rfl | rfl | rfl⟩ | ⟨l, o, os, e, k, rfl, _, _, _, ai, _⟩
  · rfl
  · rfl
  · rfl
  · have Cf : (match W.heap[l]? with | some (.cells cs _ _) => cy.cells (cs.toList.map (mask (kU W))) 0 .ro | some _ => .dead | none => .oy) = cy.cells os e k := ai
    have : k = .ro := by
      split at Cf <;> first | (cases Cf; rfl) | cases Cf
    subst this;simp only [pT, ai]
/-- The door's own heap meets bO condition. -/
theorem ago (os : Os) (args : Array Value) : laidMetH Tryz.prog Rows.scopeClosedRow.laid ((World.doorLaid Tryz.prog 4000 os).forCall (fun _ _ => 0) ⟨#[], args, []⟩).memory :=
  laidMetH_of_parts3 (fuel := 8) (laidMet_of_run' 8 Kr Kr) Kr Kr
set_option maxRecDepth 100000 in
theorem lifted (os : Os) (started : os.Started) (H : Type) (enc : TypeId × Value → H) :
    ReturnsInHanded {} Tryz.checked os 6 .any (fun w args => (Rows.scopeClosedSpec.pre enc Tryz.prog Tryz.f6 [] false w args ∧ laidMetH Tryz.prog Rows.scopeClosedRow.laid w) ∧ sizedMet enc Tryz.prog Tryz.f6 (OpenSpec.ofChange Rows.scopeClosedSpec) false w args)
      (Rows.scopeClosedSpec.post enc Tryz.prog Tryz.f6 false true false false) := by
  refine returnsInHanded_of_change_and (C := Tryz.checked) (X := fun w _ => laidMetH Tryz.prog Rows.scopeClosedRow.laid w) (fun _ _ _ hh h => h.of_heap hh) own started Kr Tryz.func6
    (ChangeSpec.witness_shaped (enc := enc) (C := Tryz.checked) (os := os) (X := fun w _ => laidMetH Tryz.prog Rows.scopeClosedRow.laid w) false (World.doorLaid Tryz.prog 4000 os) #[.slice none 0 0] 8 rfl (World.shaped_of_RefB Kr Kr) Kr Kr Kr (ago os _)) ?_
  intro W base args ds gs before agp hW _ Sa hL _;have Ee : ∀ (j : Nat) t v, Tryz.f6.params[j]? = some t → args[j]? = some v → Value.okWide Tryz.prog W .any base t v := agp;have hW' := hW;obtain ⟨p, q, vW, hV, rfl, Am, Ef⟩ := hW;have hA : DataW.TrodAll enc Tryz.prog W 0 (fun _ => true) true Tryz.f6.params.toList args.toList ds p := vW;have eM : (DataW.weightsEach Tryz.prog (Tryz.f6.params.toList ++ Rows.scopeClosedSpec.plain.varTypes Tryz.prog) (ds ++ gs)).all (· ≤ reachBytes) = true := Sa;rw [Tryz.params6] at hA Ee eM;obtain ⟨v0, vs0, d0, ds0, p0, q0, gk, rfl, rfl, h0, r0⟩ := trodAll_cons hA;obtain ⟨rfl, rfl, rfl⟩ := trodAll_nil r0
  obtain rfl : args = #[v0] := by cases args; simp_all
  obtain ⟨rfl, rfl⟩ := trodVars_none hV;have k0 := h0
  have lt0 : ∀ x ∈ p0, x.block < W.heap.size := by obtain ⟨m, hm⟩ := k0; exact DataW.trod_lt m _ _ _ hm
  have Sa : (d0.weights Tryz.prog 22).all (· ≤ reachBytes) = true := agq (j := 0) eM rfl rfl;obtain ⟨sa0, sl0, sc0, rfl⟩ := okWide_slice Tryz.underlying22 (Ee 0 22 v0 rfl rfl);obtain ⟨agr, arE, YG, ⟨YH, YI, ags, YJ⟩, GO, mu0⟩ := agt (agu (sz := 1) YK Tryz.underlying22 Kr de (agv YK Tryz.underlying5 (k := .u8))) h0
  have h80 : Tryz.prog.bytesOf 5 = 1 := by kernel_rfl
  have ln0 := (GO Sa).1;rw [h80] at ln0;have Eg : uP (.slice sa0 sl0 sc0) = .slice YH YG.length YI := agm ags;have ok0 : pT (tU W) 5 (.slice YH YG.length YI) = true := agn YJ;have hc := agw (w := W) agx (aQ.cons agr (aQ.nil _)) (by rw [Eg]; exact agy (agz hL Kr (by simp [Rows.scopeClosedRow])) YJ)
  refine Calls.mono hc fun e W' ⟨he, YL⟩ => ?_
  subst he;exact ⟨_, rfl, _, _, _, [], _, [], hW', trodAll_mk1 (shut_bool Tryz.underlying4 _), (trodAll_cons_mk (Below.trod laidOut Kr (of_decide_eq_true Kr) k0 YL lt0) trodAll_mk0), rfl, YL.frame _, fun h => by cases h⟩
theorem over : Rows.ScopeClosedSaid :=
  OpenClaim.holds_of_wide 6 Tryz.f6 rfl rfl rfl rfl rfl rfl rfl ⟨rfl, rfl, rfl, rfl, rfl⟩ rfl rfl rfl rfl rfl Kr Tryz.func6 Kr
    (of_decide_eq_true Kr) (by unfold Func.isWrapper; first | (rw [if_pos (by decide +kernel)]; kernel_rfl) | (rw [if_neg (by decide +kernel)]; exact ⟨rfl, rfl⟩))
    (fun os started H enc _ => lifted os started H enc)
/-- The tied agA. -/
theorem proved : Rows.ScopeClosedCardSaid :=
  Claim7.holds_tied_plain_at .later [] [.data, .data, .data] true (true, "99c07886b38e6b989f99f7b5b68125af9bedbde582701252a4ade810873a0eff") true
    over (fun _ h => by cases h) Kr (fun _ h => by cases h) scopeClosed_row_tie rfl ⟨rfl, rfl⟩ Kr rfl
    (fun f fn hf pU => by
      obtain rfl : f = 6 := Option.some.inj ((show Tryz.prog.funcNamed "scree/screelaw07.ScopeClosed" = some 6 by kernel_rfl).symm.trans hf) |>.symm
      obtain rfl : fn = Tryz.f6 := (Option.some.inj (Tryz.func6.symm.trans pU)).symm
      exact ⟨Kr, fun j t ht => by
        rw [Tryz.params6] at ht
        have hm : t ∈ [22] := by simpa using Array.mem_of_getElem? ht
        have jA : ([22].all fun u => !Tryz.prog.wantsStandIn u) = true := by kernel_rfl
        exact (show Tryz.prog.wantsStandIn t = false by simpa using List.all_eq_true.1 jA t hm)⟩)
    Kr
#print axioms proved
end Go.Proofs.YticlaccbodpkeaaGreatDoor.scopeClosed
