/- Canonical runs: the given measure of data. -/
import Derived.Test.YtmpojphjongdcaaCanZ
import Derived.Test.YtmpojphjongdcaaRows
namespace Go.Proofs.Ytmpojphjongdcaa
namespace Can
open Go Go.RowKit
theorem bulkAll {H : Type} : ∀ l : List (DataW H), Rows.uptoBulkAll l = (l.map Rows.uptoBulk).sum
  | [] => by simp [Rows.uptoBulkAll]
  | d :: r => by simp [Rows.uptoBulkAll, bulkAll r]
theorem bulk_ok {H : Type} : BulkOk (H := H) Rows.uptoBulk where
  one d := by
    cases d with
    | lit l => cases l <;> simp [Rows.uptoBulk]
    | nil => simp [Rows.uptoBulk]
    | ptr d => simp [Rows.uptoBulk]
    | slice elems spare => simp [Rows.uptoBulk]
    | agg parts => simp [Rows.uptoBulk]
    | iface t d => simp [Rows.uptoBulk]
    | map entries => simp [Rows.uptoBulk]
    | held h => simp [Rows.uptoBulk]
  slice elems spare := by simp only [Rows.uptoBulk, bulkAll]; omega
  agg parts := by simp only [Rows.uptoBulk, bulkAll]; omega
  str bs := by simp [Rows.uptoBulk]
theorem split1 {cs : List Value} {v : Value} (h : cs.take 1 = [v]) : cs = v :: cs.drop 1 := by
  have := List.take_append_drop 1 cs
  rw [h] at this
  exact this.symm
theorem SlAt.imp {α : Type} {sz : Nat} {R R' : CRep α} {H : CH} {a : Option Addr} {c : Nat} {xs : List α} (h : SlAt sz R H a c xs) (k : ∀ cs x, x ∈ xs → R H cs x → R' H cs x) : SlAt sz R' H a c xs := by
  rcases h with h | ⟨l, o, os, e, kd, h0, h1, h2, h3, h4, h5, h6⟩
  · exact .inl h
  · exact .inr ⟨l, o, os, e, kd, h0, h1, h2, h3, h4, h5, fun i hi => k _ _ (List.getElem_mem hi) (h6 i hi)⟩
end Can
end Go.Proofs.Ytmpojphjongdcaa
