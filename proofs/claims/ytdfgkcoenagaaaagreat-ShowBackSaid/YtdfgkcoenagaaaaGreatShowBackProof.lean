/- ShowBack: for every argument the call returns true, and the arguments read as before. No other condition. -/
import Derived.Test.YtdfgkcoenagaaaaGreatYj
import Derived.Test.YtdfgkcoenagaaaaGreatYd
import Derived.Test.YtdfgkcoenagaaaaGreatRows
import Derived.JoinedCond
import Derived.Deep.CondSized
set_option linter.unusedSimpArgs false
set_option linter.unusedVariables false
namespace Go.Proofs.YtdfgkcoenagaaaaGreat.showBack
open Go.ChangeShapes Go.WideShapes Go.ChangeAt Go.RowKit Can
theorem own : ownKnob Tryz.prog.godebug = none := by kernel_rfl
theorem laidOut : laidOutB Tryz.prog = true := by kernel_rfl
theorem aoG {v : Value} {L : List Value} (h : (sj v).cells.toList = L) (hl : 2 ≤ L.length) : sj v = .agg L.toArray := by
  match L, hl with
  | a :: b :: r, _ => exact acr h
theorem acs {a : Option Addr} {n c : Nat} {v : Value} (h : (sj (.slice a n c)).cells.toList = [v]) : sj (.slice a n c) = v := by
  have h1 : (sj (.slice a n c)).cells.toList = [sj (.slice a n c)] := by
    have hz : sj (.slice a n c) = cz (.slice a n c) := rfl;rw [Tz, hz]; rfl
  rw [h1] at h;exact (List.cons.inj h).1
theorem acu {W : World} {e : TypeId} {α : Type} {sz : Nat} {R : sk α} {a : Option Addr} {c : Nat} {xs : List α} (h : gB sz R (tm W) a c xs) : px (tm W) e (.slice a xs.length c) = true := by
  rcases h with ⟨rfl, _, rfl | rfl | rfl⟩ | ⟨l, o, os, e, k, rfl, _, _, _, ap, _⟩
  · rfl
  · rfl
  · rfl
  · have mS : (match W.heap[l]? with | some (.cells cs _ _) => dm.cells (cs.toList.map (mask (lA W))) 0 .ro | some _ => .dead | none => .oL) = dm.cells os e k := ap
    have : k = .ro := by
      split at mS <;> first | (cases mS; rfl) | cases mS
    subst this;simp only [px, ap]
set_option maxRecDepth 100000 in
theorem lifted (os : Os) (started : os.Started) (H : Type) (enc : TypeId × Value → H) :
    ReturnsInHanded {} Tryz.checked os 3 .any (Rows.showBackSpec.pre6 enc Tryz.prog Tryz.f3 Rows.showBackRow.domain false) (Rows.showBackSpec.post enc Tryz.prog Tryz.f3 false true false false) := by
  refine returnsInHanded_of_change_sized (C := Tryz.checked) own started Kr Tryz.func3
    (ChangeSpec.witness6 (enc := enc) (C := Tryz.checked) false ⟨#[], #[.slice none 0 0], []⟩ 8 Kr Kr Kr Kr) ?_
  intro W base args ds gs before acv hW aoH NL _;have AT : ∀ (j : Nat) t v, Tryz.f3.params[j]? = some t → args[j]? = some v → Value.okWide Tryz.prog W .any base t v := acv;have hW' := hW;obtain ⟨p, q, hA0, hV, rfl, pA, NM⟩ := hW;have hA : DataW.TrodAll enc Tryz.prog W 0 (fun _ => true) true Tryz.f3.params.toList args.toList ds p := hA0;have fy : (DataW.weightsEach Tryz.prog (Tryz.f3.params.toList ++ Rows.showBackSpec.plain.varTypes Tryz.prog) (ds ++ gs)).all (· ≤ reachBytes) = true := NL;rw [Tryz.params3] at hA AT fy;obtain ⟨v0, vs0, d0, ds0, p0, q0, fA, rfl, rfl, h0, r0⟩ := trodAll_cons hA;obtain ⟨rfl, rfl, rfl⟩ := trodAll_nil r0
  obtain rfl : args = #[v0] := by cases args; simp_all
  obtain ⟨rfl, rfl⟩ := trodVars_none hV;have k0 := h0
  have lt0 : ∀ x ∈ p0, x.block < W.heap.size := by obtain ⟨m, hm⟩ := k0; exact DataW.trod_lt m _ _ _ hm
  have NL : (d0.weights Tryz.prog 22).all (· ≤ reachBytes) = true := acw (j := 0) fy rfl rfl;obtain ⟨sa0, sl0, sc0, rfl⟩ := okWide_slice Tryz.underlying22 (AT 0 22 v0 rfl rfl);obtain ⟨acx, aoI, TF, ⟨TG, TH, acy, TI⟩, Dh, mu0⟩ := acz (acA (sz := 1) TJ Tryz.underlying22 Kr de (acB TJ Tryz.underlying5 (k := .u8))) h0
  have h80 : Tryz.prog.bytesOf 5 = 1 := by kernel_rfl
  have ln0 := (Dh NL).1;rw [h80] at ln0;have AU : sj (.slice sa0 sl0 sc0) = .slice TG TF.length TH := acs acy;have ok0 : px (tm W) 5 (.slice TG TF.length TH) = true := acu TI;have hc := acC (w := W) acD (aW.cons acx (aW.nil _)) (by rw [AU]; exact acE TI)
  refine Calls.mono hc fun e W' ⟨he, TK⟩ => ?_
  subst he;exact ⟨_, rfl, _, _, _, [], _, [], hW', trodAll_mk1 (shut_bool Tryz.underlying4 _), (trodAll_cons_mk (Below.trod laidOut Kr (of_decide_eq_true Kr) k0 TK lt0) trodAll_mk0), rfl, TK.frame _, fun h => by cases h⟩
theorem mT : Rows.showBackRow.holds Tryz.pinned (OpenSpec.ofChange Rows.showBackSpec) :=
  OpenClaim.holds_of_wide 3 Tryz.f3 rfl rfl rfl rfl rfl rfl rfl ⟨rfl, rfl, rfl, rfl, rfl⟩ rfl rfl rfl rfl rfl Kr Tryz.func3 Kr
    (of_decide_eq_true Kr) (by unfold Func.isWrapper; first | (rw [if_pos (by decide +kernel)]; kernel_rfl) | (rw [if_neg (by decide +kernel)]; exact ⟨rfl, rfl⟩))
    (fun os started H enc _ => lifted os started H enc)
theorem proved : Rows.ShowBackSaid := mT
#print axioms proved
end Go.Proofs.YtdfgkcoenagaaaaGreat.showBack
