/- Flow: what is reached, in plain terms. -/
import Derived.Test.YtapcoeecjlkdgaaFlWaysLaw
namespace Go.Proofs.Ytapcoeecjlkdgaa
namespace Can
open Go Go.RowKit
set_option linter.unusedSimpArgs false
set_option linter.unusedVariables false
inductive Rch (F : Fn') : Nat → Prop where
  | zero : Rch F 0
  | step {x y : Nat} {p : Int × List Int} (h : Rch F x) (hp : p ∈ waysF F x) (hy : p.1 = (y : Int)) : Rch F y
def SndB (F : Fn') (bs : List Bool) : Prop := ∀ i, bs[i]? = some true → Rch F i
def ClsAt (F : Fn') (bs : List Bool) (x : Nat) : Prop := ∀ p ∈ waysF F x, bs[p.1.toNat]? = some true
theorem ways_in {F : Fn'} (hs : soundF F = true) {x : Int} {p : Int × List Int} (hp : p ∈ waysF F x) : 0 ≤ p.1 ∧ p.1 < F.ins.length := by
  unfold waysF at hp
  split at hp
  case isFalse => cases hp
  rename_i hin
  simp only [soundF, Bool.and_eq_true] at hs
  rcases List.mem_append.1 hp with hp | hp
  · rw [List.mem_map] at hp
    obtain ⟨q, hq, rfl⟩ := hp
    have h1 := range_all.1 hs.2.1 x.toNat (by omega)
    simp only [okAt, Bool.and_eq_true] at h1
    have h2 := h1.2
    have e : ((x.toNat : Nat) : Int) = x := by omega
    rw [e] at h2
    have h3 := List.all_eq_true.1 h2 q.1 (by
      obtain ⟨_, h4, h5⟩ := List.mem_zipIdx hq
      rw [h5]; exact List.getElem_mem _)
    simpa using h3
  · split at hp
    · rename_i hh
      simp at hp
      subst hp
      have hhl := hdl_lt (F := F) (a := x)
      have h1 := range_all.1 hs.2.2 (hdlF F x).toNat (by omega)
      have h2 := of_decide_eq_true h1
      exact ⟨h2.2.2.2.1, h2.2.2.2.2.1⟩
    · cases hp
theorem rch_of {F : Fn'} {bs : List Bool} (h0 : bs[0]? = some true) (hc : ∀ x, bs[x]? = some true → ClsAt F bs x) {i : Nat} (h : Rch F i) : bs[i]? = some true := by
  induction h with
  | zero => exact h0
  | step h hp hy ih =>
    have := hc _ ih _ hp
    rw [hy] at this
    simpa using this
theorem reach_uni {F : Fn'} {bs cs : List Bool} (hl : bs.length = cs.length) (h0 : bs[0]? = some true) (hs : SndB F bs) (hc : ∀ x, bs[x]? = some true → ClsAt F bs x) (k0 : cs[0]? = some true) (ks : SndB F cs) (kc : ∀ x, cs[x]? = some true → ClsAt F cs x) : bs = cs := by
  apply List.ext_getElem hl
  intro i h1 h2
  have e1 : bs[i] = true ↔ Rch F i := ⟨fun h => hs i (by simp [h1, h]), fun h => by have := rch_of h0 hc h; simpa [h1] using this⟩
  have e2 : cs[i] = true ↔ Rch F i := ⟨fun h => ks i (by simp [h2, h]), fun h => by have := rch_of k0 kc h; simpa [h2] using this⟩
  rw [Bool.eq_iff_iff, e1, e2]
def cf (bs : List Bool) : Nat := bs.count false
theorem cf_set : ∀ {bs : List Bool} {i : Nat}, bs[i]? = some false → cf (bs.set i true) < cf bs
  | [], i, h => by simp at h
  | b :: bs, 0, h => by simp at h; subst h; simp [cf]
  | b :: bs, i + 1, h => by
    have := cf_set (bs := bs) (i := i) (by simpa using h)
    simp only [cf, List.set_cons_succ, List.count_cons] at this ⊢
    omega
theorem set_get_true {bs : List Bool} {i j : Nat} (h : bs[j]? = some true) : (bs.set i true)[j]? = some true := by
  rw [List.getElem?_set]
  split
  · rename_i e
    subst e
    rw [if_pos (List.getElem?_eq_some_iff.1 h).1]
  · exact h
theorem set_get_self {bs : List Bool} {i : Nat} (h : i < bs.length) : (bs.set i true)[i]? = some true := by simp [h]
theorem snd_set {F : Fn'} {bs : List Bool} {i : Nat} (h : SndB F bs) (hi : Rch F i) : SndB F (bs.set i true) := fun j hj => by
  rw [List.getElem?_set] at hj
  split at hj
  · rename_i e; subst e; exact hi
  · exact h j hj
def bools (bs : List Bool) : List Value := bs.map .bool
theorem zeros_bools (n : Nat) : zeros [.bool false] n = bools (List.replicate n false) := by
  unfold zeros bools
  apply List.ext_getElem
  · simp
  · intro i h1 h2; simp [Nat.mod_one]
theorem bools_get {bs : List Bool} {i : Nat} (h : i < bs.length) : (bools bs)[i]? = some (.bool (bs.getD i false)) := by
  simp [bools, List.getD, List.getElem?_eq_getElem h]
theorem bools_len {bs : List Bool} : (bools bs).length = bs.length := by simp [bools]
theorem bools_set {bs : List Bool} {i : Nat} {b : Bool} (h : i < bs.length) : setCells (bools bs) i [.bool b] = bools (bs.set i b) := set_map h
end Can
end Go.Proofs.Ytapcoeecjlkdgaa
