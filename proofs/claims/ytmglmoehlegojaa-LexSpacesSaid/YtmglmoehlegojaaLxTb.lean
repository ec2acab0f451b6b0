/- Lex: tokens in a block; a cut between two parts. -/
import Derived.Test.YtmglmoehlegojaaLxBy
namespace Go.Proofs.Ytmglmoehlegojaa
namespace Can
open Go Go.RowKit
set_option linter.unusedSimpArgs false
set_option linter.unusedVariables false
set_option maxRecDepth 4000
theorem seq_cut {T : Tbl} {a b : RCode} {fr : Fr} {H : CH} {Q : CExit → Fr → CH → Prop} (I : Fr → CH → Prop) (h : WpR T a fr H fun x fr' H' => x = .normal ∧ I fr' H') (hb : ∀ fr' H', I fr' H' → (∀ t, nw a t = true → fr' t = fr t) → WpR T b fr' H' Q) : WpR T (.seq a b) fr H Q := by
  refine r_seq.2 ?_
  refine (wpR_keep h).mono fun x fr' H' ⟨⟨hx, hi⟩, hk⟩ => ?_
  subst hx
  exact hb fr' H' hi hk
/-- Tokens in a block. -/
def TkB (A K : CH) (b : Nat) (ts : List Tok) : Prop := A.nx ≤ b ∧ b < K.nx ∧ ∃ kd os, K.ob b = .cells os 33 kd ∧ os.take (ts.length * 3) = ts.flatMap tokC
theorem TkB.ext {A K K' : CH} {b : Nat} {ts : List Tok} (h : TkB A K b ts) (hx : HExt K K') : TkB A K' b ts := by
  obtain ⟨h1, h2, kd, os, h3, h4⟩ := h
  exact ⟨h1, Nat.lt_of_lt_of_le h2 hx.nx, kd, os, (hx.ob b h2).trans h3, h4⟩
theorem TkB.of {A K : CH} {v : Value} {ts : List Tok} (h : Grw A 33 3 tokC K v ts) (hne : ts ≠ []) : ∃ b, v = .slice (some ⟨b, 0, none⟩) ts.length ts.length ∧ TkB A K b ts := by
  rcases h with ⟨e, _⟩ | ⟨b, kd, rfl, h1, h2, h3, h4⟩
  · exact absurd e hne
  · exact ⟨b, rfl, h1, h2, kd, _, h3, List.take_of_length_le (by rw [tokLen]; omega)⟩
theorem TkB.get {A K : CH} {b : Nat} {ts : List Tok} (h : TkB A K b ts) {i : Nat} {t : Tok} (hi : ts[i]? = some t) : ∃ kd os, K.ob b = .cells os 33 kd ∧ i * 3 + 3 ≤ os.length ∧ (os.drop (i * 3)).take 3 = [.int .i64 (t.kind : Nat), .int .i64 (t.line : Nat), .string ⟨⟨t.text⟩⟩] ∧ os[i * 3]? = some (.int .i64 (t.kind : Nat)) ∧ os[i * 3 + 1]? = some (.int .i64 (t.line : Nat)) := by
  obtain ⟨hl, he⟩ := List.getElem?_eq_some_iff.1 hi
  obtain ⟨h1, h2, kd, os, h3, h4⟩ := h
  obtain ⟨b', kd', c', os', g1, g2, g3, g4⟩ := TkAt.get (v := .slice (some ⟨b, 0, none⟩) ts.length ts.length) (.inr ⟨b, kd, _, os, rfl, h3, h4⟩) hl
  cases g1
  rw [he] at g4
  have g5 := g4
  have : ∀ j, j < 3 → os'[i * 3 + j]? = [Value.int .i64 (t.kind : Nat), .int .i64 (t.line : Nat), .string ⟨⟨t.text⟩⟩][j]? := fun j hj => by
    rw [← g4, List.getElem?_take_of_lt hj, List.getElem?_drop]
  exact ⟨kd', os', g2, g3, g4, this 0 (by decide), this 1 (by decide)⟩
theorem lexT_ne {src : List UInt8} {ts : List Tok} (h : lexT src = .ok ts) : ts ≠ [] := by
  unfold lexT at h
  split at h
  · cases h
  · split at h
    · cases h
    · cases h; unfold endT; simp
end Can
end Go.Proofs.Ytmglmoehlegojaa
