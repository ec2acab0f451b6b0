/- Arena: what a step keeps; the law ArenaStays answers true. -/
import Derived.Test.YtmpojphjongdcaaArSet
import Derived.Test.YtmpojphjongdcaaArAllocLaw
import Derived.Test.YtmpojphjongdcaaArGrow
namespace Go.Proofs.Ytmpojphjongdcaa
namespace Can
open Go Go.RowKit
set_option linter.unusedSimpArgs false
set_option linter.unusedVariables false
set_option maxRecDepth 4000
theorem condK_cut {T : Tbl} {t : Bool} {a b : RCode} {fr : Fr} {H : CH} {Q : CExit → Fr → CH → Prop} (P : Fr → CH → Prop) (h1 : t = true → WpR T a fr H (fun x fr' H' => x = .normal ∧ P fr' H')) (h2 : t = false → WpR T b fr H (fun x fr' H' => x = .normal ∧ P fr' H')) (k : ∀ fr' H', P fr' H' → (∀ t, (nw a t && nw b t) = true → fr' t = fr t) → Q .normal fr' H') : CondK T (.bool t) a b fr H Q := by
  cases t with
  | true =>
    refine condK_t.2 ((wpR_keep (h1 rfl)).mono fun x fr' H' ⟨⟨hx, hp⟩, hk⟩ => ?_)
    subst hx
    exact k _ _ hp fun t ht => hk t (by simp at ht; exact ht.1)
  | false =>
    refine condK_f.2 ((wpR_keep (h2 rfl)).mono fun x fr' H' ⟨⟨hx, hp⟩, hk⟩ => ?_)
    subst hx
    exact k _ _ hp fun t ht => hk t (by simp at ht; exact ht.2)
theorem SlAt.el {α : Type} {sz : Nat} {R : CRep α} {H : CH} {a : Option Addr} {c : Nat} {xs : List α} (h : SlAt sz R H a c xs) {j : Nat} (hj : j < xs.length) :
    ∃ l o os e k, a = some ⟨l, o, none⟩ ∧ l < H.nx ∧ xs.length ≤ c ∧ c ≤ maxLen ∧ H.ob l = .cells os e k ∧ o + xs.length * sz ≤ os.length ∧ R H ((os.drop (o + j * sz)).take sz) xs[j] := by
  rcases h with ⟨h, _⟩ | ⟨l, o, os, e, k, h0, h1, h2, h3, h4, h5, h6⟩
  · subst h; simp at hj
  · exact ⟨l, o, os, e, k, h0, h1, h2, h3, h4, h5, h6 j hj⟩
theorem form_small {ws : List Int} {top : Int} {l : List Int} (h : formF ws top = some l) : ∀ x ∈ l, 1 ≤ x ∧ x < top ∧ x < 1048576 := by
  obtain ⟨g1, g2, g3, g4, g5, g6, g7, g8⟩ := form_parts h
  intro x hx
  obtain ⟨y, rfl, h1, h2, h3⟩ := chain_mem g6 x hx
  omega
theorem alE_or (ws : List Int) (top k tg rw : Int) : alE ws top k tg rw = 1 ∨ alE ws top k tg rw = 5 ∨ alE ws top k tg rw = 0 := by unfold alE; (repeat' split) <;> simp
theorem al_keeps {ws : List Int} {top k tg rw : Int} {l : List Int} (h : formF ws top = some l) : ∃ l', formF (alWs ws top k tg rw) (alTop ws top k tg rw) = some (l ++ l') ∧ top ≤ alTop ws top k tg rw ∧ (alE ws top k tg rw ≠ 0 → alWs ws top k tg rw = ws ∧ alTop ws top k tg rw = top) := by
  by_cases hb : top < 1 ∨ (ws.length : Int) < top ∨ k < 1 ∨ 255 < k ∨ tg < 0 ∨ rw < 0 ∨ 1048576 < tg ∨ 1048576 < rw
  · simp only [alWs, alTop, alE, if_pos hb]
    exact ⟨[], by simpa using h, by omega, fun _ => by simp⟩
  by_cases hf : (ws.length : Int) < top + (2 + tg + rw)
  · simp only [alWs, alTop, alE, if_neg hb, if_pos hf]
    exact ⟨[], by simpa using h, by omega, fun _ => by simp⟩
  · simp only [alWs, alTop, alE, if_neg hb, if_neg hf]
    obtain ⟨t, rfl⟩ := Int.eq_ofNat_of_zero_le (show 0 ≤ top by omega)
    obtain ⟨k, rfl⟩ := Int.eq_ofNat_of_zero_le (show 0 ≤ k by omega)
    obtain ⟨tg, rfl⟩ := Int.eq_ofNat_of_zero_le (show 0 ≤ tg by omega)
    obtain ⟨rw', rfl⟩ := Int.eq_ofNat_of_zero_le (show 0 ≤ rw by omega)
    have := form_lay h (k := k) (tg := tg) (rw := rw') (by omega) (by omega) (by omega) (by omega) (by omega)
    have e : ((t : Int) + (2 + (tg : Int) + (rw' : Int))) = ((t + (2 + tg + rw') : Nat) : Int) := by omega
    simp only [Int.toNat_natCast]
    rw [e]
    exact ⟨_, this, by omega, fun h => absurd rfl h⟩
theorem st_keeps {ws : List Int} {top a i w : Int} {l : List Int} (h : formF ws top = some l) (ha : a ∈ l ∨ a = 0) (hw : kindF w = 0 → w / 4 ∈ l) : formF (stW ws top a i w) top = some l ∧ (stE ws top a i w ≠ 0 → stW ws top a i w = ws) := by
  unfold stW stE
  cases hcs : canS ws top a i with
  | false => simp only [Bool.false_eq_true, if_false]; exact ⟨h, fun _ => by simp⟩
  | true =>
    simp only [if_true]
    split
    · exact ⟨h, fun _ => rfl⟩
    · rename_i hn
      refine ⟨?_, fun h => absurd rfl h⟩
      simp only [canS, Bool.and_eq_true, decide_eq_true_eq] at hcs
      have hin := of_decide_eq_true (show decide _ = true from hcs.1.1)
      have hf := form_small h
      obtain ⟨g1, g2, g3, g4, g5, g6, g7, g8⟩ := form_parts h
      rcases ha with ha | rfl
      · obtain ⟨t, rfl⟩ := Int.eq_ofNat_of_zero_le (show 0 ≤ top by omega)
        obtain ⟨a, rfl⟩ := Int.eq_ofNat_of_zero_le (show 0 ≤ a by omega)
        obtain ⟨j, rfl⟩ := Int.eq_ofNat_of_zero_le (show 0 ≤ i by omega)
        simp only [Int.toNat_natCast] at hcs hn
        have e : ((a : Int) + 2 + (j : Int)).toNat = a + (2 + j) := by omega
        rw [e]
        refine form_set h ha (by omega) (by omega) fun hj => ?_
        unfold refOk
        rw [if_neg (fun hk => hn ⟨by omega, hk⟩)]
        split
        · rename_i hk
          have hm := hw hk
          have := hf _ hm
          exact decide_eq_true ⟨by rw [Int.toNat_natCast] at *; omega, hm⟩
        · rfl
      · omega
theorem stW_len {ws : List Int} {top a i w : Int} : (stW ws top a i w).length = ws.length := by
  unfold stW; (repeat' split) <;> simp
theorem stE_or (ws : List Int) (top a i w : Int) : stE ws top a i w = 0 ∨ stE ws top a i w = 9 ∨ stE ws top a i w = 1 := by unfold stE; (repeat' split) <;> simp
theorem kind4 {x : Int} (h1 : 1 ≤ x) (h2 : x < 1048576) : kindF (4 * x) = 0 ∧ 4 * x / 4 = x := by
  unfold kindF okA
  rw [if_pos (by omega), show 4 * x / 4 = x by omega, if_pos (decide_eq_true ⟨h1, h2⟩)]
  exact ⟨rfl, rfl⟩
theorem kind2 : kindF 2 = 2 := by decide
structure Stp where
  st : Bool
  k : Int
  t : Int
  r : Int
  w : Int
structure StpOk (s : Stp) : Prop where
  k : -9223372036854775808 ≤ s.k ∧ s.k ≤ 9223372036854775807
  t : -9223372036854775808 ≤ s.t ∧ s.t ≤ 9223372036854775807
  r : -9223372036854775808 ≤ s.r ∧ s.r ≤ 9223372036854775807
  w : 0 ≤ s.w ∧ s.w < 18446744073709551616
def CStp : CRep Stp := fun _ cs s => cs = [.bool s.st, .int .i64 s.k, .int .i64 s.t, .int .i64 s.r, .int .u64 s.w] ∧ StpOk s
theorem CStp.good : CGood CStp := fun _ _ _ _ _ h => h
end Can
end Go.Proofs.Ytmpojphjongdcaa
