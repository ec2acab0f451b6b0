/- AllSyntax: for every argument the call returns true, and the arguments read as before. No other condition. -/
import Derived.Test.YtdfgkcoenagaaaaGreatWj
import Derived.Test.YtdfgkcoenagaaaaGreatWd
import Derived.Test.YtdfgkcoenagaaaaGreatRows
import Derived.JoinedCond
import Derived.Deep.CondSized
set_option linter.unusedSimpArgs false
set_option linter.unusedVariables false
namespace Go.Proofs.YtdfgkcoenagaaaaGreat.allSyntax
open Go.ChangeShapes Go.WideShapes Go.ChangeAt Go.RowKit Can
theorem own : ownKnob Tryz.prog.godebug = none := by kernel_rfl
theorem laidOut : laidOutB Tryz.prog = true := by kernel_rfl
theorem ao' {v : Value} {L : List Value} (h : (sv v).cells.toList = L) (hl : 2 ≤ L.length) : sv v = .agg L.toArray := by
  match L, hl with
  | a :: b :: r, _ => exact ac4 h
theorem ac5 {a : Option Addr} {n c : Nat} {v : Value} (h : (sv (.slice a n c)).cells.toList = [v]) : sv (.slice a n c) = v := by
  have h1 : (sv (.slice a n c)).cells.toList = [sv (.slice a n c)] := by
    have hz : sv (.slice a n c) = cz (.slice a n c) := rfl;rw [T9, hz]; rfl
  rw [h1] at h;exact (List.cons.inj h).1
theorem ac6 {W : World} {e : TypeId} {α : Type} {sz : Nat} {R : sw α} {a : Option Addr} {c : Nat} {xs : List α} (h : fU sz R (tw W) a c xs) : pF (tw W) e (.slice a xs.length c) = true := by
  rcases h with ⟨rfl, _, rfl | rfl | rfl⟩ | ⟨l, o, os, e, k, rfl, _, _, _, ap, _⟩
  · rfl
  · rfl
  · rfl
  · have mX : (match W.heap[l]? with | some (.cells cs _ _) => dr.cells (cs.toList.map (mask (lG W))) 0 .ro | some _ => .dead | none => .oV) = dr.cells os e k := ap
    have : k = .ro := by
      split at mX <;> first | (cases mX; rfl) | cases mX
    subst this;simp only [pF, ap]
set_option maxRecDepth 100000 in
theorem lifted (os : Os) (started : os.Started) (H : Type) (enc : TypeId × Value → H) :
    ReturnsInHanded {} Tryz.checked os 5 .any (Rows.allSyntaxSpec.pre6 enc Tryz.prog Tryz.f5 Rows.allSyntaxRow.domain false) (Rows.allSyntaxSpec.post enc Tryz.prog Tryz.f5 false true false false) := by
  refine returnsInHanded_of_change_sized (C := Tryz.checked) own started Kr Tryz.func5
    (ChangeSpec.witness6 (enc := enc) (C := Tryz.checked) false ⟨#[], #[.slice none 0 0], []⟩ 8 Kr Kr Kr Kr) ?_
  intro W base args ds gs before ac7 hW apa NX _;have AZ : ∀ (j : Nat) t v, Tryz.f5.params[j]? = some t → args[j]? = some v → Value.okWide Tryz.prog W .any base t v := ac7;have hW' := hW;obtain ⟨p, q, hA0, hV, rfl, pG, NY⟩ := hW;have hA : DataW.TrodAll enc Tryz.prog W 0 (fun _ => true) true Tryz.f5.params.toList args.toList ds p := hA0;have fA : (DataW.weightsEach Tryz.prog (Tryz.f5.params.toList ++ Rows.allSyntaxSpec.plain.varTypes Tryz.prog) (ds ++ gs)).all (· ≤ reachBytes) = true := NX;rw [Tryz.params5] at hA AZ fA;obtain ⟨v0, vs0, d0, ds0, p0, q0, fB, rfl, rfl, h0, r0⟩ := trodAll_cons hA;obtain ⟨rfl, rfl, rfl⟩ := trodAll_nil r0
  obtain rfl : args = #[v0] := by cases args; simp_all
  obtain ⟨rfl, rfl⟩ := trodVars_none hV;have k0 := h0
  have lt0 : ∀ x ∈ p0, x.block < W.heap.size := by obtain ⟨m, hm⟩ := k0; exact DataW.trod_lt m _ _ _ hm
  have NX : (d0.weights Tryz.prog 22).all (· ≤ reachBytes) = true := ac8 (j := 0) fA rfl rfl;obtain ⟨sa0, sl0, sc0, rfl⟩ := okWide_slice Tryz.underlying22 (AZ 0 22 v0 rfl rfl);obtain ⟨ac9, apb, T', ⟨Ua, Uc, ac', Ud⟩, Dm, mu0⟩ := ada (adb (sz := 1) Ue Tryz.underlying22 Kr de (adc Ue Tryz.underlying5 (k := .u8))) h0
  have h80 : Tryz.prog.bytesOf 5 = 1 := by kernel_rfl
  have ln0 := (Dm NX).1;rw [h80] at ln0;have A0 : sv (.slice sa0 sl0 sc0) = .slice Ua T'.length Uc := ac5 ac';have ok0 : pF (tw W) 5 (.slice Ua T'.length Uc) = true := ac6 Ud;have hc := ade (w := W) adf (aW.cons ac9 (aW.nil _)) (by rw [A0]; exact adg Ud)
  refine Calls.mono hc fun e W' ⟨he, Uf⟩ => ?_
  subst he;exact ⟨_, rfl, _, _, _, [], _, [], hW', trodAll_mk1 (shut_bool Tryz.underlying4 _), (trodAll_cons_mk (Below.trod laidOut Kr (of_decide_eq_true Kr) k0 Uf lt0) trodAll_mk0), rfl, Uf.frame _, fun h => by cases h⟩
theorem mz : Rows.allSyntaxRow.holds Tryz.pinned (OpenSpec.ofChange Rows.allSyntaxSpec) :=
  OpenClaim.holds_of_wide 5 Tryz.f5 rfl rfl rfl rfl rfl rfl rfl ⟨rfl, rfl, rfl, rfl, rfl⟩ rfl rfl rfl rfl rfl Kr Tryz.func5 Kr
    (of_decide_eq_true Kr) (by unfold Func.isWrapper; first | (rw [if_pos (by decide +kernel)]; kernel_rfl) | (rw [if_neg (by decide +kernel)]; exact ⟨rfl, rfl⟩))
    (fun os started H enc _ => lifted os started H enc)
theorem proved : Rows.AllSyntaxSaid := mz
#print axioms proved
end Go.Proofs.YtdfgkcoenagaaaaGreat.allSyntax
