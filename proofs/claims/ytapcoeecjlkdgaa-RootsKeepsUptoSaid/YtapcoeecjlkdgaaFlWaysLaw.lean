/- Flow: the law FlowWays answers true, as a canonical run. -/
import Derived.Test.YtapcoeecjlkdgaaFlWaysR
namespace Go.Proofs.Ytapcoeecjlkdgaa
namespace Can
open Go Go.RowKit
set_option linter.unusedSimpArgs false
set_option linter.unusedVariables false
set_option maxRecDepth 4000
theorem ways_wf {H : CH} {F : Fn'} {A : FnA} (hF : FnOk H F A) {a : Int} (ha : i64r a) : ∀ x ∈ (waysF F a).map (·.1), (Lit.int .i64 x).wf = true := by
  intro x hx
  unfold waysF at hx
  split at hx
  case isFalse => cases hx
  rename_i hin
  have hj : a.toNat < F.ins.length := by omega
  have hii : insAt F a = F.ins[a.toNat] := by unfold insAt; exact getD_at hj
  obtain ⟨_, _, _, _, _, _, _, _, _, _, _, _, _, _, _, hio⟩ := hF.ins.el hj
  rw [List.map_append, List.mem_append] at hx
  rcases hx with hx | hx
  · rw [List.map_map, List.mem_map] at hx
    obtain ⟨p, hp, rfl⟩ := hx
    have := List.mem_zipIdx hp
    rw [← hii] at hio
    refine (goes_ok hio ha).1 _ ?_
    obtain ⟨_, h2, h3⟩ := this
    show p.1 ∈ _
    rw [h3]
    exact List.getElem_mem _
  · split at hx
    · rename_i hh
      have hhl := hdl_lt (F := F) (a := a)
      have hhj : (hdlF F a).toNat < F.rgs.length := by omega
      obtain ⟨_, _, _, _, _, _, _, _, _, _, _, _, hro⟩ := hF.rgs.el hhj
      simp at hx
      subst hx
      have hgr : rgAt F (hdlF F a) = F.rgs[(hdlF F a).toNat] := getD_at hhj
      rw [hgr]
      exact wf_i64 hro.g
    · cases hx
theorem way_get : ∀ (es : List WayE) (j : Nat) (e : WayE), es[j]? = some e → (es.flatMap wayC)[j * 2]? = some (.int .i64 e.t) ∧ (es.flatMap wayC)[j * 2 + 1]? = some (.slice e.q e.ws.length e.c)
  | [], j, e, h => by simp at h
  | x :: es, 0, e, h => by simp at h; subst h; exact ⟨rfl, rfl⟩
  | x :: es, j + 1, e, h => by
    have := way_get es j e (by simpa using h)
    simp only [List.flatMap_cons, wayC]
    rw [show (j + 1) * 2 = j * 2 + 2 by omega]
    exact this
end Can
end Go.Proofs.Ytapcoeecjlkdgaa
