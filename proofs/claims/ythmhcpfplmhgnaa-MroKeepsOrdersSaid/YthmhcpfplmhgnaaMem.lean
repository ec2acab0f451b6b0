/- Memory that a call makes for itself: rows of cells that it owns, how they grow, what stays. Over any program. -/
import Derived.Test.YthmhcpfplmhgnaaBase
import Derived.WalkSmall
import Derived.Maps.AppendAt
namespace Go.Proofs.Ythmhcpfplmhgnaa
open Go.ChangeShapes Go.WideShapes Go.ChangeAt Go.RowKit
set_option linter.unusedSimpArgs false
set_option linter.unusedVariables false
set_option linter.unusedSectionVars false

/-- w' is w with new blocks and writes to the block 'row' alone. -/
abbrev Grow (row : Option Nat) (w w' : World) : Prop := w.grownBy w' row
theorem Grow.refl (row : Option Nat) (w : World) : Grow row w w := ⟨rfl, rfl, rfl, Nat.le_refl _, fun _ _ _ => rfl⟩
theorem Grow.trans {row row' : Option Nat} {a b c : World} (h : Grow row a b) (k : Grow row' b c) (hr : ∀ j, row' = some j → row = some j ∨ a.heap.size ≤ j) : Grow row a c :=
  ⟨k.os.trans h.os, k.tape.trans h.tape, k.output.trans h.output, Nat.le_trans h.size k.size, fun i hi hn =>
    (k.block i (Nat.lt_of_lt_of_le hi h.size) (fun e => by rcases hr i e.symm with e' | e'; exact hn e'.symm; omega)).trans (h.block i hi hn)⟩
theorem Grow.of_below {row : Option Nat} {w w' : World} (h : Below w.heap.size w w') : Grow row w w' := ⟨h.os, h.tape, h.output, h.size, fun k hk _ => h.block k hk⟩
theorem Grow.to_below {w w' : World} (h : Grow none w w') : Below w.heap.size w w' := ⟨h.os, h.tape, h.output, h.size, fun k hk => h.block k hk (by simp)⟩
theorem Grow.below {row : Option Nat} {w w' : World} {B : Nat} (h : Grow row w w') (hB : B ≤ w.heap.size) (hr : ∀ j, row = some j → B ≤ j) : Below B w w' :=
  ⟨h.os, h.tape, h.output, h.size, fun k hk => h.block k (by omega) (fun e => by have := hr k e.symm; omega)⟩
theorem Grow.alloc {row : Option Nat} {a w : World} (h : Grow row a w) (o : Obj) : Grow row a (w.alloc o) := h.trans (World.grownBy_alloc w o none) (by simp)
theorem Grow.drewN {row : Option Nat} {a w : World} (h : Grow row a w) (n : Nat) : Grow row a (w.drewN n) := ⟨h.os, h.tape, h.output, h.size, h.block⟩
theorem Grow.weak {row : Option Nat} {a w : World} (h : Grow none a w) : Grow row a w := ⟨h.os, h.tape, h.output, h.size, fun k hk _ => h.block k hk (by simp)⟩
theorem Grow.agree {row : Option Nat} {w w' : World} (h : Grow row w w') {S : Nat → Prop} (hS : ∀ b, S b → b < w.heap.size ∧ some b ≠ row) : Agree S w w' :=
  fun b hb => h.block b (hS b hb).1 (hS b hb).2
theorem ownBlock_ge {w : World} {base : Nat} {e size n : Nat} {v : Value} {cs : List Value} (h : w.ownsRow base e size v n cs) : ∀ j, v.ownBlock = some j → base ≤ j := fun j hj => (h.lt j hj).1

/-- An owned row reads as what its cells read as. -/
theorem own_reads {α : Type} {R : Rep α} {S : Nat → Prop} {w : World} {base e n : Nat} {v : Value} {cs : List Value} {xs : List α} (h : w.ownsRow base e 1 v n cs) (hl : xs.length = n)
    (hx : ∀ i (h1 : i < xs.length) (h2 : i < cs.length), R S w [cs[i]] xs[i]) (hS : ∀ b, v.ownBlock = some b → S b) : RSl 1 R S w [v] xs := by
  subst hl
  obtain ⟨hlen, h⟩ := h
  have hlen' : cs.length = xs.length := by omega
  rcases h with ⟨rfl, h0⟩ | ⟨g, cap, cur, rfl, hb, hg, hn, hm, hsz, ht⟩
  · have : xs = [] := List.length_eq_zero_iff.1 h0
    subst this
    exact RSl.nil S w
  · refine ⟨some ⟨g, 0, none⟩, cap, rfl, hn, hm, fun i hi => ⟨g, 0, hS g rfl, rfl, [cs[i]'(by omega)], rfl, hx i hi (by omega), fun j hj => ?_⟩⟩
    have hj0 : j = 0 := by simp at hj; omega
    subst hj0
    have hc : cs[i]'(by omega) = cur.toList[i]'(by simp; omega) := by
      have : cs = cur.toList.take (xs.length * 1) := ht.symm
      simp only [this, List.getElem_take]
    simp only [World.cell?, hg, List.getElem_cons_zero, hc]
    simp
/-- .. and its cells, one by one. -/
theorem own_cell {w : World} {base e n : Nat} {v : Value} {cs : List Value} (h : w.ownsRow base e 1 v n cs) (i : Nat) (hi : i < n) :
    ∃ g cap, v = .slice (some ⟨g, 0, none⟩) n cap ∧ base ≤ g ∧ g < w.heap.size ∧ n ≤ cap ∧ cap ≤ maxLen ∧ w.frozen? ⟨g, i, none⟩ = false ∧ ∃ hc : i < cs.length, w.cell? ⟨g, i, none⟩ = some cs[i] := by
  have h' := h
  obtain ⟨hlen, h'⟩ := h'
  rcases h' with ⟨rfl, h0⟩ | ⟨g, cap, cur, rfl, hb, hg, hn, hm, hsz, ht⟩
  · omega
  · have hlt := (h.lt g rfl).2
    refine ⟨g, cap, rfl, hb, hlt, hn, hm, h.frozenAt i, by omega, ?_⟩
    rw [h.cellAt i (by omega), List.getElem?_eq_getElem (by omega)]
theorem own_form {w : World} {base e n : Nat} {v : Value} {cs : List Value} (h : w.ownsRow base e 1 v n cs) : ∃ a cap, v = .slice a n cap ∧ n ≤ cap ∧ cap ≤ maxLen ∧ cs.length = n := by
  obtain ⟨hlen, h'⟩ := h
  rcases h' with ⟨rfl, h0⟩ | ⟨g, cap, cur, rfl, hb, hg, hn, hm, hsz, ht⟩
  · exact ⟨none, 0, by rw [h0], by omega, Nat.zero_le _, by omega⟩
  · exact ⟨_, cap, rfl, hn, hm, by omega⟩
theorem own_base {w : World} {base base' e n size : Nat} {v : Value} {cs : List Value} (h : w.ownsRow base e size v n cs) (hb : ∀ j, v.ownBlock = some j → base' ≤ j) : w.ownsRow base' e size v n cs := by
  obtain ⟨hlen, h⟩ := h
  refine ⟨hlen, ?_⟩
  rcases h with h | ⟨g, cap, cur, rfl, _, r⟩
  · exact .inl h
  · exact .inr ⟨g, cap, cur, rfl, hb g rfl, r⟩
/-- One store into an owned row. -/
theorem own_set {w : World} {base e n g cap : Nat} {cs : List Value} (h : w.ownsRow base e 1 (.slice (some ⟨g, 0, none⟩) n cap) n cs) (i : Nat) (u : Value) :
    (w.setCell ⟨g, i, none⟩ u).ownsRow base e 1 (.slice (some ⟨g, 0, none⟩) n cap) n (cs.set i u) ∧ Grow (some g) w (w.setCell ⟨g, i, none⟩ u) := h.stored i u
theorem cell_new (w : World) (u : Value) (e : TypeId) : (w.alloc (.cells #[u] e)).cell? ⟨w.heap.size, 0, none⟩ = some u := by
  rw [World.cell?_alloc_at _ _ _ _ rfl]; rfl
theorem heap_alloc_at (w : World) (o : Obj) (k : Nat) : (w.alloc o).heap[k]? = if k = w.heap.size then some o else w.heap[k]? := Array.getElem?_push
/-- Cells and data, one by one. -/
def All2 {α : Type} (R : Rep α) (S : Nat → Prop) (w : World) : List Value → List α → Prop
  | [], [] => True
  | c :: cs, x :: xs => R S w [c] x ∧ All2 R S w cs xs
  | _, _ => False
theorem All2.get {α : Type} {R : Rep α} {S : Nat → Prop} {w : World} : ∀ {cs : List Value} {xs : List α}, All2 R S w cs xs → cs.length = xs.length ∧ ∀ i (h1 : i < xs.length) (h2 : i < cs.length), R S w [cs[i]] xs[i]
  | [], [], _ => ⟨rfl, fun i h => absurd h (Nat.not_lt_zero _)⟩
  | c :: cs, x :: xs, ⟨h, hr⟩ => by
    obtain ⟨h1, h2⟩ := All2.get hr
    refine ⟨by simp [h1], fun i hi hi' => ?_⟩
    cases i with
    | zero => exact h
    | succ i => simpa only [List.getElem_cons_succ] using h2 i (by simpa using hi) (by simpa using hi')
  | [], _ :: _, h => h.elim
  | _ :: _, [], h => h.elim
theorem RSl.lit {α : Type} {R : Rep α} {S : Nat → Prop} {w : World} {g n : Nat} {cs : List Value} {xs : List α} {e : TypeId} {fr : Nat × Nat} (hb : w.heap[g]? = some (.cells cs.toArray e fr)) (hn : cs.length = n) (hm : n ≤ maxLen) (hS : S g) (h : All2 R S w cs xs) :
    RSl 1 R S w [.slice (some ⟨g, 0, none⟩) n n] xs := by
  obtain ⟨h1, h2⟩ := h.get
  subst hn
  refine ⟨_, _, by rw [h1], by omega, hm, fun i hi => ⟨g, 0, hS, rfl, [cs[i]'(by omega)], rfl, h2 i hi _, fun j hj => ?_⟩⟩
  have hj0 : j = 0 := by simp at hj; omega
  subst hj0
  simp [World.cell?, hb, h1, hi]
theorem own_drewN {w : World} {base e n size : Nat} {v : Value} {cs : List Value} (h : w.ownsRow base e size v n cs) (q : Nat) : (w.drewN q).ownsRow base e size v n cs := h

/-- A slice value that has these cells: m elements of 'size' cells each. -/
def Src (w : World) (size : Nat) (sv : Value) (m : Nat) (news : List Value) : Prop :=
  ∃ a c, sv = .slice a m c ∧ news.length = m * size ∧ (∀ u ∈ news, u.oneCell' = true) ∧ (m = 0 ∨ ∃ ad, a = some ad ∧ ∀ j u, news[j]? = some u → w.cell? (ad.add j) = some u)
theorem Src.one {w : World} {g : Nat} {u : Value} (hc : w.cell? ⟨g, 0, none⟩ = some u) (h1 : u.oneCell' = true) : Src w 1 (.slice (some ⟨g, 0, none⟩) 1 1) 1 [u] :=
  ⟨_, _, rfl, rfl, fun y hy => by simp at hy; subst hy; exact h1, .inr ⟨_, rfl, fun j y hj => by
    cases j with
    | zero => simp at hj; subst hj; exact hc
    | succ j => simp at hj⟩⟩
theorem Src.quiet {w w' : World} {size m : Nat} {sv : Value} {news : List Value} (h : Src w size sv m news) (hc : ∀ a u, w.cell? a = some u → w'.cell? a = some u) : Src w' size sv m news := by
  obtain ⟨a, c, h1, h2, h3, h4⟩ := h
  exact ⟨a, c, h1, h2, h3, h4.imp id fun ⟨ad, e, hh⟩ => ⟨ad, e, fun j u hj => hc _ _ (hh j u hj)⟩⟩
theorem own_src {w : World} {base e n size : Nat} {v : Value} {cs : List Value} (h : w.ownsRow base e size v n cs) (h1 : ∀ u ∈ cs, u.oneCell' = true) : Src w size v n cs := by
  have hl := h.1
  rcases h.2 with ⟨rfl, rfl⟩ | ⟨g, cap, cur, rfl, _⟩
  · exact ⟨none, 0, rfl, hl, h1, .inl rfl⟩
  · exact ⟨_, cap, rfl, hl, h1, .inr ⟨_, rfl, h.cells (g := g) rfl⟩⟩
theorem run_append_src {P : Program} (w : World) (base : Nat) (t ty e : TypeId) (z : Value) (size bytes : Nat) (ht : P.underlying t = some (.slice e)) (he : (P.info? e).map (fun i => (i.zero, i.size, i.bytes)) = some (some z, size, bytes))
    (hzs : z.cells.size = size) (hsz : 0 < size) {v : Value} {n : Nat} {xs : List Value} (hown : w.ownsRow base e size v n xs) {sv : Value} {m : Nat} {news : List Value} (hsrc : Src w size sv m news)
    (h63 : n + m ≤ maxLen) (hbytes : (n + m) * bytes ≤ 140737488355328) (hbase : base ≤ w.heap.size) :
    ∃ v' w', (Builtin.append_ #[t, t] ty #[v, sv]).run P w = .ok v' w' ∧ w'.ownsRow base e size v' (n + m) (xs ++ news) ∧ Grow v.ownBlock w w' ∧ (v'.ownBlock = v.ownBlock ∨ v'.ownBlock = some w.heap.size) := by
  obtain ⟨i0, hi, hz0, hz1, hz2⟩ := info_parts he
  obtain ⟨a, c, rfl, hl, h1, hc⟩ := hsrc
  by_cases hn : a = none
  · subst hn
    rcases hc with rfl | ⟨ad, e', _⟩
    · have hnews : news = [] := List.length_eq_zero_iff.1 (by simpa using hl)
      subst hnews
      refine ⟨v, w, ?_, by simpa using hown, Grow.refl _ _, .inl rfl⟩
      rcases hown.2 with ⟨rfl, rfl⟩ | ⟨g, cap, cur, rfl, _, _, hnc, _⟩
      · simp [Builtin.append_, run_underlying ht, sizeOf, typeInfo, hi, Builtin.lenOf, Builtin.firstCells]
      · simp [Builtin.append_, run_underlying ht, sizeOf, typeInfo, hi, Builtin.lenOf, Builtin.firstCells, hnc, storeCells]
    · cases e'
  · obtain ⟨ad, rfl⟩ : ∃ ad, a = some ad := by cases a <;> simp_all
    have hnews : ∀ j u, news[j]? = some u → w.cell? (ad.add j) = some u := by
      rcases hc with rfl | ⟨ad', e', h⟩
      · have : news = [] := List.length_eq_zero_iff.1 (by simpa using hl)
        subst this; intro j u hj; simp at hj
      · cases e'; exact h
    obtain ⟨v', w', hr, h2, h3, h4⟩ := run_append_own (P := P) w base t ty e i0 z size bytes ht hi hz0 hz1 hz2 hzs hsz v n xs hown ad m c news hl hnews h1 h63 hbytes hbase
    refine ⟨v', w', hr, h2, h3, ?_⟩
    have hsmall : n + m ≤ 9223372036854775807 := by simp only [maxLen] at h63; omega
    rcases hown.2 with ⟨rfl, rfl⟩ | ⟨g, cap, cur, rfl, hbg, hg, hnc, hcm, hcs, htake⟩
    · by_cases hm : m = 0
      · have := h4.2 ⟨rfl, hm⟩
        subst this; exact .inl rfl
      · have hr' := run_append_nil (P := P) w t ty e i0 z ht hi hz0 ad m c news (by rw [hz1]; exact hl) hnews (by omega) (by omega) (by rw [hz2]; have hb := hbytes; simp only [Nat.zero_add] at hb; omega)
        rw [hr] at hr'
        simp only [Result.ok.injEq] at hr'
        exact .inr (by rw [hr'.1]; rfl)
    · by_cases hroom : n + m ≤ cap
      · have hfit : n * i0.size + news.length ≤ cur.size := by rw [hl, hcs, hz1, ← Nat.add_mul]; exact Nat.mul_le_mul_right _ hroom
        have hr' := run_append_room (P := P) w t ty e i0 ht hi g n cap cur hg ad m c news (by rw [hz1]; exact hl) hnews h1 hroom hfit
        rw [hr] at hr'
        simp only [Result.ok.injEq] at hr'
        exact .inl (by rw [hr'.1]; rfl)
      · have holds : ∀ j u, xs[j]? = some u → w.cell? ((⟨g, 0, none⟩ : Addr).add j) = some u := hown.cells (g := g) rfl
        have hr' := run_append_grow (P := P) w t ty e i0 z ht hi hz0 ⟨g, 0, none⟩ n cap xs (by rw [hz1]; exact hown.1) holds ad m c news (by rw [hz1]; exact hl) hnews (by omega) (by omega) (by rw [hz2]; exact growslice_fits (by omega) hbytes)
        rw [hr] at hr'
        simp only [Result.ok.injEq] at hr'
        exact .inr (by rw [hr'.1]; rfl)
section
variable {P : Program} {w : World} {ops : Array Oper} {rest : List Oper} {o : Oper} {a : Act} {Q : Exit → Act → World → Prop}
/-- 'append(s, x...)' as a step of the walk. -/
theorem wpl_append (hgd : o.guard = none) (s x : Operand) (t : TypeId) (ho : o.op = .call { callee := .builtin .append, args := #[s, x], argTypes := #[t, t] })
    (e : TypeId) (z : Value) (size bytes : Nat) (ht : P.underlying t = some (.slice e)) (he : (P.info? e).map (fun i => (i.zero, i.size, i.bytes)) = some (some z, size, bytes)) (hzs : z.cells.size = size) (hsz : 0 < size)
    {base : Nat} {v : Value} {n : Nat} {cs : List Value} (hown : w.ownsRow base e size v n cs) (hs : a.eval s = v) {sv : Value} {m : Nat} {news : List Value} (hsrc : Src w size sv m news) (hx : a.eval x = sv)
    (h63 : n + m ≤ maxLen) (hbytes : (n + m) * bytes ≤ 140737488355328) (hbase : base ≤ w.heap.size)
    (h : ∀ v' w', w'.ownsRow base e size v' (n + m) (cs ++ news) → Grow v.ownBlock w w' → (v'.ownBlock = v.ownBlock ∨ v'.ownBlock = some w.heap.size) → wpList P ops Q rest (a.put o.dst v') w') : wpList P ops Q (o :: rest) a w := by
  obtain ⟨v', w', hr, h2, h3, h4⟩ := run_append_src (P := P) w base t o.type e z size bytes ht he hzs hsz hown hsrc h63 hbytes hbase
  refine wpList_plain hgd fun _ hK => ?_
  unfold Oper.wp execOp
  simp only [ho, resolve, invoke, builtin, Sem.run_bind, Sem.run_pure, Result.andThen_ok, List.map_toArray, List.map_cons, List.map_nil, hs, hx, hr]
  exact hK _ _ (h v' w' h2 h3 h4)
/-- 'append(s, u)': one element of one cell. -/
theorem wpl_push (hgd : o.guard = none) (s x : Operand) (t : TypeId) (ho : o.op = .call { callee := .builtin .append, args := #[s, x], argTypes := #[t, t] })
    (e : TypeId) (z : Value) (bytes : Nat) (ht : P.underlying t = some (.slice e)) (he : (P.info? e).map (fun i => (i.zero, i.size, i.bytes)) = some (some z, 1, bytes)) (hz : z.cells.size = 1)
    {base : Nat} {v : Value} {n : Nat} {cs : List Value} (hown : w.ownsRow base e 1 v n cs) (hs : a.eval s = v) (u : Value) (g : Nat) (hx : a.eval x = .slice (some ⟨g, 0, none⟩) 1 1)
    (hc : w.cell? ⟨g, 0, none⟩ = some u) (h1 : u.oneCell' = true) (h63 : n + 1 ≤ maxLen) (hbytes : (n + 1) * bytes ≤ 140737488355328) (hbase : base ≤ w.heap.size)
    (h : ∀ v' w', w'.ownsRow base e 1 v' (n + 1) (cs ++ [u]) → Grow v.ownBlock w w' → wpList P ops Q rest (a.put o.dst v') w') : wpList P ops Q (o :: rest) a w := by
  obtain ⟨i0, hi, hz0, hz1, hz2⟩ := info_parts he
  exact wpList_append_own w hgd s x t ho base e i0 z 1 bytes ht hi hz0 hz1 hz2 hz (by decide) v n cs hs hown ⟨g, 0, none⟩ 1 1 [u] hx rfl
    (fun j y hj => by
      cases j with
      | zero => simp at hj; subst hj; exact hc
      | succ j => simp at hj) (fun y hy => by simp at hy; subst hy; exact h1) h63 hbytes hbase fun v' w' h2 h3 _ => h v' w' h2 h3
end
end Go.Proofs.Ythmhcpfplmhgnaa
