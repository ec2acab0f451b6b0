/- Canonical runs: a list copied behind an empty list. -/
import Derived.Test.YtmpojphjongdcaaCanBk
import Derived.Test.YtmpojphjongdcaaCanY
namespace Go.Proofs.Ytmpojphjongdcaa
namespace Can
open Go Go.RowKit
set_option linter.unusedSimpArgs false
set_option linter.unusedVariables false
set_option maxRecDepth 4000
theorem chunk_take {α : Type} {os : List α} {o L i sz : Nat} (h : i * sz + sz ≤ L) : ((((os.drop o).take L).drop (0 + i * sz)).take sz) = ((os.drop (o + i * sz)).take sz) := by
  rw [Nat.zero_add, List.drop_take, List.drop_drop, List.take_take, Nat.min_eq_left (by omega)]
theorem all_chunks {os : List Value} {o n sz : Nat} (h0 : 0 < sz) (h : ∀ i, i < n → ((os.drop (o + i * sz)).take sz).all isCell = true) : ((os.drop o).take (n * sz)).all isCell = true := by
  rw [List.all_eq_true]
  intro v hv
  obtain ⟨j, hj, rfl⟩ := List.getElem_of_mem hv
  have hj' : j < n * sz := by simp at hj; omega
  have hi : j / sz < n := Nat.div_lt_of_lt_mul (by rw [Nat.mul_comm]; exact hj')
  have h1 := h (j / sz) hi
  rw [List.all_eq_true] at h1
  apply h1
  have hm := Nat.mod_lt j h0
  have hd : j / sz * sz + j % sz = j := by rw [Nat.mul_comm]; exact Nat.div_add_mod j sz
  have hlen : o + j < os.length := by simp at hj; omega
  rw [List.mem_iff_getElem]
  refine ⟨j % sz, ?_, ?_⟩
  · simp; omega
  · simp only [List.getElem_take, List.getElem_drop]
    congr 1
    omega
theorem copy_app {α : Type} {R : CRep α} (g : CGood R) {sz e bytes : Nat} (hc : ∀ H cs x, R H cs x → cs.all isCell = true) (hz : 0 < sz) {K K1 : CH} {q : Option Addr} {c : Nat} {xs : List α} (h : SlAt sz R K q c xs) (hb : xs.length * bytes ≤ 140737488355328) (hm : xs.length ≤ 9223372036854775807) (hx : HExt K K1) {l : Nat} (hl : K1.ob l = .cells [] e .ex) (hlK : K.nx ≤ l) (hl1 : l < K1.nx)
    {Q : Value → CH → Prop} (k : ∀ q2 c2 K2, K1.nx ≤ K2.nx → (∀ x, x < K1.nx → K2.ob x = K1.ob x) → SlAt sz R K2 q2 c2 xs → (∀ x o, q2 = some ⟨x, o, none⟩ → x = l ∨ K1.nx ≤ x) → Q (.slice q2 xs.length c2) K2) :
    optW (appS (srcCells K1 sz (.slice q xs.length c)) e sz bytes (.slice (some ⟨l, 0, none⟩) 0 0) K1) Q := by
  have h0 : xs.length = 0 → srcCells K1 sz (.slice q xs.length c) = some ([], 0) := fun e0 => by
    rcases h with ⟨rfl, rfl, rfl | rfl | rfl⟩ | ⟨l', o, os, e', kd, rfl, h1, h2, h3, h4, h5, h6⟩
    · rfl
    · rfl
    · rfl
    · rw [src_r, if_pos e0]
  by_cases e0 : xs.length = 0
  · rw [h0 e0, appS_some, appV_r, hl, appR_c, if_pos rfl, optW_some]
    have := k (some ⟨l, 0, none⟩) 0 K1 (Nat.le_refl _) (fun x _ => rfl) (.inr ⟨l, 0, [], e, .ex, rfl, hl1, by omega, Nat.zero_le _, hl, by rw [e0]; simp, fun i hi => by omega⟩) (fun x o e => by cases e; exact .inl rfl)
    rw [e0] at this
    exact this
  · rcases h with ⟨rfl, _⟩ | ⟨l', o, os, e', kd, rfl, h1, h2, h3, h4, h5, h6⟩
    · exact absurd rfl e0
    · have h4' := (hx.ob l' h1).trans h4
      have hall := all_chunks (os := os) (o := o) (n := xs.length) (sz := sz) hz fun i hi => hc _ _ _ (h6 i hi)
      rw [src_r, if_neg e0, h4', srcR_c, if_pos h5, appS_some, appV_r, hl, appR_c, if_neg e0, if_pos ⟨rfl, rfl, rfl, by simp, hall, by simpa using hb, by rw [maxLen_eq]; omega⟩, optW_some]
      have hfull : (Kd.ex.isEx && decide (0 < 0 + xs.length)) = true := by simp [Kd.isEx]; omega
      rw [hfull]
      simp only [appH, if_true, Nat.zero_mul, List.take_zero, List.nil_append, Nat.zero_add]
      refine k _ _ _ (Nat.le_succ _) (fun x hx => by rw [new_get, if_neg (by omega)]) (.inr ⟨K1.nx, 0, _, e, .gr, rfl, Nat.lt_succ_self _, Nat.le_refl _, by rw [maxLen_eq]; omega, by rw [new_get, if_pos rfl], by simp; omega, fun i hi => ?_⟩) (fun x o e => by cases e; exact .inr (Nat.le_refl _))
      have hi2 : i * sz + sz ≤ xs.length * sz := by
        have := Nat.mul_le_mul_right sz (show i + 1 ≤ xs.length by omega)
        rw [Nat.add_mul, Nat.one_mul] at this
        exact this
      rw [chunk_take hi2]
      exact g _ _ _ _ (hx.trans (HExt.new (HExt.refl _) _)) (h6 i hi)
theorem SlAt.mvG {α : Type} {sz : Nat} {R : CRep α} (hR : ∀ H K cs x, R H cs x → R K cs x) {H K : CH} {q : Option Addr} {c : Nat} {xs : List α} (h : SlAt sz R H q c xs) (hn : H.nx ≤ K.nx) (hk : ∀ l o, q = some ⟨l, o, none⟩ → K.ob l = H.ob l) : SlAt sz R K q c xs := by
  rcases h with h | ⟨l, o, os, e, kd, h0, h1, h2, h3, h4, h5, h6⟩
  · exact .inl h
  · exact .inr ⟨l, o, os, e, kd, h0, Nat.lt_of_lt_of_le h1 hn, h2, h3, (hk l o h0).trans h4, h5, fun i hi => hR _ _ _ _ (h6 i hi)⟩
/-- A list of integers copied behind an empty list: the row is known. -/
theorem copy_ints {k : IntKind} {e bytes l : Nat} {K K1 : CH} {q : Option Addr} {c : Nat} {xs : List Int} (hs : SlAt 1 (CInt k) K q c xs) (hx : HExt K K1) (hb : xs.length * bytes ≤ 140737488355328) (hm : xs.length ≤ 9223372036854775807) (hl : K1.ob l = .cells [] e .ex) (hl1 : l < K1.nx)
    {Q : Value → CH → Prop} (kk : ∀ x c2 K2 kd, K1.nx ≤ K2.nx → (∀ y, y < K1.nx → K2.ob y = K1.ob y) → (x = l ∨ K1.nx ≤ x) → x < K2.nx → K2.ob x = .cells (xs.map (.int k)) e kd → kd.isRo = false → xs.length ≤ c2 → c2 ≤ 9223372036854775807 → Q (.slice (some ⟨x, 0, none⟩) xs.length c2) K2) :
    optW (appS (srcCells K1 1 (.slice q xs.length c)) e 1 bytes (.slice (some ⟨l, 0, none⟩) 0 0) K1) Q := by
  rw [src_ints (hs.good (CInt.good _) hx), flat_ints, appS_some, appV_r, hl, appR_c]
  by_cases e0 : xs.length = 0
  · have : xs = [] := List.length_eq_zero_iff.1 e0
    rw [if_pos e0, optW_some]
    subst this
    exact kk l 0 K1 .ex (Nat.le_refl _) (fun _ _ => rfl) (.inl rfl) hl1 hl rfl (Nat.le_refl _) (by omega)
  · have hall : (xs.map (Value.int k)).all isCell = true := by simp [isCell]
    have hfull : (Kd.ex.isEx && decide (0 < 0 + xs.length)) = true := by simp [Kd.isEx]; omega
    rw [if_neg e0, if_pos ⟨rfl, rfl, rfl, by simp, hall, by simpa using hb, by rw [maxLen_eq]; omega⟩, optW_some, hfull]
    simp only [appH, if_true, Nat.zero_mul, List.take_zero, List.nil_append, Nat.zero_add]
    exact kk _ _ _ .gr (Nat.le_succ _) (fun x hx => by rw [new_get, if_neg (by omega)]) (.inr (Nat.le_refl _)) (Nat.lt_succ_self _) (by rw [new_get, if_pos rfl]) rfl (Nat.le_refl _) hm
end Can
end Go.Proofs.Ytmpojphjongdcaa
