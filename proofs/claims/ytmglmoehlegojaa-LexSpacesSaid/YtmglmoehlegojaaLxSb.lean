/- Lex, plain: a source's tokens written out are those tokens again. -/
import Derived.Test.YtmglmoehlegojaaLxSa
import Derived.Test.YtmglmoehlegojaaLxQu
namespace Go.Proofs.Ytmglmoehlegojaa
namespace Can
set_option linter.unusedSimpArgs false
set_option linter.unusedVariables false
theorem AlT.app {a b c d : List Tok} (h : AlT a b) (g : AlT c d) : AlT (a ++ c) (b ++ d) := by
  unfold AlT at *
  rw [List.map_append, List.map_append, h, g]
def stk : Nat → List Nat
  | 0 => [0]
  | s + 1 => 4 * (s + 1) :: stk s
theorem stk_len : ∀ {s : Nat}, (stk s).length = s + 1
  | 0 => rfl
  | s + 1 => by simp only [stk, List.length_cons, stk_len]
theorem stk_hd : ∀ {s : Nat}, (stk s).headD 0 = 4 * s
  | 0 => rfl
  | s + 1 => rfl
theorem stk_push {line s : Nat} : indT line (stk s) (4 * (s + 1)) = ([⟨2, line, []⟩], stk (s + 1)) := by
  unfold indT
  rw [stk_hd, if_pos (by omega)]; rfl
theorem stk_tw {s : Nat} : ∀ {k : Nat}, (stk (s + k)).takeWhile (fun x => decide (4 * s < x)) = (stk (s + k)).take k ∧ (stk (s + k)).dropWhile (fun x => decide (4 * s < x)) = stk s
  | 0 => by
    cases s with
    | zero => exact ⟨rfl, rfl⟩
    | succ s =>
      show (stk (s + 1)).takeWhile _ = _ ∧ (stk (s + 1)).dropWhile _ = _
      simp only [stk]
      rw [List.takeWhile_cons_of_neg (by simp), List.dropWhile_cons_of_neg (by simp)]
      exact ⟨rfl, rfl⟩
  | k + 1 => by
    obtain ⟨h1, h2⟩ := stk_tw (s := s) (k := k)
    show (4 * (s + k + 1) :: stk (s + k)).takeWhile _ = (4 * (s + k + 1) :: stk (s + k)).take (k + 1) ∧ (4 * (s + k + 1) :: stk (s + k)).dropWhile _ = _
    rw [List.takeWhile_cons_of_pos (by simp; omega), List.dropWhile_cons_of_pos (by simp; omega), h1, h2]
    exact ⟨rfl, rfl⟩
theorem stk_pop {line s k : Nat} : indT line (stk (s + k)) (4 * s) = (List.replicate k ⟨3, line, []⟩, stk s) := by
  unfold indT
  rw [stk_hd, if_neg (by omega), stk_tw.1, stk_tw.2, List.length_take, stk_len, Nat.min_eq_left (by omega)]
def txt (L : List Tok) : List UInt8 := L.flatMap fun t => tokX t.kind t.text
def depL : Nat → List Tok → Nat
  | d, [] => d
  | d, t :: L => depL (depT d t.kind t.text) L
theorem depL_app : ∀ {A B : List Tok} {d : Nat}, depL d (A ++ B) = depL (depL d A) B
  | [], _, _ => rfl
  | _ :: A, _, _ => depL_app (A := A)
def good (L : List Tok) : Prop := ∀ t ∈ L, GoodT t.kind t.text
theorem blk_txt {p : Nat} {L : List Tok} (hg : good L) (hne : L ≠ []) : blkN (List.replicate p (UInt8.ofNat 32) ++ txt L) = p ∧ p < (List.replicate p (UInt8.ofNat 32) ++ txt L).length := by
  cases L with
  | nil => exact absurd rfl hne
  | cons t L =>
    obtain ⟨_, ⟨c, u, hc, h32, h35⟩, _⟩ := hg t (by simp)
    have ht : txt (t :: L) = c :: (u ++ txt L) := by
      unfold txt; rw [List.flatMap_cons, hc]; rfl
    rw [ht]
    refine ⟨?_, by simp⟩
    unfold blkN
    rw [nW_space (r := c :: (u ++ txt L)) (show c.toNat ≠ 32 from h32), List.drop_left' (by simp), if_neg (show ¬ hd (c :: (u ++ txt L)) = 35 from h35)]
theorem toks_txt {line : Nat} : ∀ {L : List Tok} {f p d : Nat}, good L → p + (txt L).length < f → toks line f (List.replicate p (UInt8.ofNat 32) ++ txt L) d = some (L.map (fun t => ⟨t.kind, line, t.text⟩), depL d L)
  | _, 0, _, _, _, h => absurd h (by omega)
  | [], f + 1, p, d, _, _ => by
    have e : List.replicate p (UInt8.ofNat 32) ++ txt [] = List.replicate p (UInt8.ofNat 32) := List.append_nil _
    rw [e]
    simp only [toks]
    rw [if_pos (by rw [blk_sp]; simp)]; rfl
  | t :: L, f + 1, p, d, hg, h => by
    obtain ⟨h1, h2⟩ := blk_txt (p := p) hg (by simp)
    obtain ⟨g1, ⟨c, u, hc, h32, h35⟩, _⟩ := hg t (by simp)
    have ht : txt (t :: L) = tokX t.kind t.text ++ txt L := rfl
    obtain ⟨y, hy⟩ := @tokX_end t.kind t.text
    have hyl : 0 < y.length := by
      cases y with
      | nil =>
        rw [hc] at hy
        rw [List.nil_append] at hy
        have := (List.cons.inj hy).1
        exact absurd (by rw [this]; decide : c.toNat = 32) h32
      | cons a b => simp
    have hlen : (tokX t.kind t.text).length = y.length + 1 := by rw [hy]; simp
    simp only [toks]
    rw [if_neg (by omega), h1, List.drop_left' (by simp), ht, g1]
    simp only
    have hdr : (List.replicate p (UInt8.ofNat 32) ++ (tokX t.kind t.text ++ txt L)).drop (p + ((tokX t.kind t.text).length - 1)) = List.replicate 1 (UInt8.ofNat 32) ++ txt L := by
      rw [← List.drop_drop, List.drop_left' (by simp), hlen, hy, List.append_assoc, List.drop_left' (by omega)]; rfl
    rw [ht, List.length_append, hlen] at h
    rw [hdr, toks_txt (fun a ha => hg a (by simp [ha])) (by omega)]
    rfl
def rowX (s : Nat) (L : List Tok) : List UInt8 := List.replicate (4 * s) (UInt8.ofNat 32) ++ txt L
theorem rowX_no {s : Nat} {L : List Tok} (hg : good L) : ∀ c ∈ rowX s L, c.toNat ≠ 10 := by
  intro c hc
  rcases List.mem_append.1 hc with hc | hc
  · rw [List.eq_of_mem_replicate hc]; decide
  · obtain ⟨t, ht, hc⟩ := List.mem_flatMap.1 hc
    exact (hg t ht).2.2 c hc
/-- How blocks begin or end ahead of a row. -/
def InsF (s s' : Nat) (ins : List Tok) : Prop := (∃ a, ins = [⟨2, a, []⟩] ∧ s' = s + 1) ∨ (∃ a k, ins = List.replicate k ⟨3, a, []⟩ ∧ s' + k = s)
theorem rowX_row {line s s' : Nat} {ins L : List Tok} (hi : InsF s s' ins) (hg : good L) (hne : L ≠ []) (hd : depL 0 L = 0) : ∃ x, rowT line (rowX s' L) 0 (stk s) = .ok (x, 0, stk s') ∧ ∀ ln : Tok, ln.kind = 1 → ln.text = [] → AlT (ins ++ L ++ [ln]) x := by
  obtain ⟨h1, h2⟩ := blk_txt (p := 4 * s') hg hne
  have hT := toks_txt (line := line) (f := (rowX s' L).length + 1) (p := 4 * s') (d := 0) hg (by unfold rowX; simp)
  have hind : ∃ ins', indT line (stk s) (4 * s') = (ins', stk s') ∧ AlT ins ins' := by
    rcases hi with ⟨a, rfl, rfl⟩ | ⟨a, k, rfl, rfl⟩
    · exact ⟨_, stk_push, rfl⟩
    · exact ⟨_, stk_pop, by unfold AlT; simp⟩
  obtain ⟨ins', hi1, hi2⟩ := hind
  refine ⟨ins' ++ L.map (fun t => ⟨t.kind, line, t.text⟩) ++ [⟨1, line, []⟩], ?_, fun ln e1 e2 => ?_⟩
  · unfold rowT
    rw [show blkN (rowX s' L) = 4 * s' from h1, if_neg (show ¬ (rowX s' L).length ≤ 4 * s' by unfold rowX; omega), hi1, if_neg (by rw [stk_hd]; simp)]
    rw [show rowX s' L = List.replicate (4 * s') (UInt8.ofNat 32) ++ txt L from rfl] at hT ⊢
    rw [hT]
    simp [hd]
  · refine (hi2.app ?_).app ?_
    · unfold AlT; rw [List.map_map]; rfl
    · unfold AlT; simp [e1, e2]
theorem rowsD_snoc {R : List UInt8} : ∀ {A : List (List UInt8)} {line d d' d2 : Nat} {st st' st2 : List Nat} {x y : List Tok}, rowsD line A d st = .ok (x, d', st') → rowT (line + A.length) R d' st' = .ok (y, d2, st2) → rowsD line (A ++ [R]) d st = .ok (x ++ y, d2, st2)
  | [], line, d, d', d2, st, st', st2, x, y, h, g => by
    cases h
    simp only [List.nil_append, rowsD]
    rw [show line + ([] : List (List UInt8)).length = line from rfl] at g
    rw [g]; simp
  | t :: A, line, d, d', d2, st, st', st2, x, y, h, g => by
    simp only [rowsD] at h
    cases hr : rowT line t d st with
    | error e => rw [hr] at h; cases h
    | ok q =>
      obtain ⟨x1, d1, st1⟩ := q
      rw [hr] at h
      simp only at h
      cases hq : rowsD (line + 1) A d1 st1 with
      | error e => rw [hq] at h; cases h
      | ok z =>
        obtain ⟨x2, d3, st3⟩ := z
        rw [hq] at h
        cases h
        have := rowsD_snoc (R := R) hq (by rw [show line + 1 + A.length = line + (t :: A).length by simp; omega]; exact g)
        simp only [List.cons_append, rowsD]
        rw [hr]
        simp only
        rw [this]
        simp
/-- What is written stands in rows, and lexes to what was written. -/
def Rdy (out : List Tok) (s : Nat) (acc : List UInt8) : Prop := ∃ RS out', acc = RS.flatMap (fun r => r ++ [UInt8.ofNat 10]) ∧ rowsD 1 RS 0 [0] = .ok (out', 0, stk s) ∧ AlT out out' ∧ ∀ r ∈ RS, ∀ c ∈ r, c.toNat ≠ 10
theorem Rdy.init : Rdy [] 0 [] := ⟨[], [], rfl, rfl, rfl, fun r hr => by cases hr⟩
theorem Rdy.row {out ins L : List Tok} {s s' : Nat} {acc : List UInt8} {ln : Tok} (h : Rdy out s acc) (hi : InsF s s' ins) (hg : good L) (hne : L ≠ []) (hd : depL 0 L = 0) (e1 : ln.kind = 1) (e2 : ln.text = []) : Rdy (out ++ (ins ++ L ++ [ln])) s' (acc ++ rowX s' L ++ [UInt8.ofNat 10]) := by
  obtain ⟨RS, out', rfl, h2, h3, h4⟩ := h
  obtain ⟨x, g1, g2⟩ := rowX_row (line := 1 + RS.length) hi hg hne hd
  refine ⟨RS ++ [rowX s' L], out' ++ x, by simp, rowsD_snoc h2 g1, h3.app (g2 ln e1 e2), fun r hr => ?_⟩
  rcases List.mem_append.1 hr with hr | hr
  · exact h4 r hr
  · simp at hr; subst hr; exact rowX_no hg
instance {x : List UInt8} : Decidable (okStr x) := by unfold okStr; infer_instance
def wtS (w : Int × Bool × List UInt8) (t : Tok) : Int × Bool × List UInt8 :=
  if t.kind = 2 then (w.1 + 1, w.2.1, w.2.2) else if t.kind = 3 then (w.1 - 1, w.2.1, w.2.2) else if t.kind = 1 then (w.1, true, w.2.2 ++ [UInt8.ofNat 10])
  else (w.1, false, w.2.2 ++ (if w.2.1 = true then List.replicate (4 * w.1).toNat (UInt8.ofNat 32) else []) ++ tokX t.kind t.text)
def wtR : Int × Bool × List UInt8 → List Tok → Option (List UInt8 × Bool)
  | _, [] => none
  | w, t :: ts => if t.kind = 0 then some (w.2.2, w.2.1) else if t.kind = 7 ∧ ¬ okStr t.text then none else wtR (wtS w t) ts
theorem wtR_app : ∀ {x rest : List Tok} {w : Int × Bool × List UInt8} {r : List UInt8 × Bool}, (∀ y ∈ x, y.kind ≠ 0) → wtR w (x ++ rest) = some r → (∀ y ∈ x, y.kind = 7 → okStr y.text) ∧ wtR (x.foldl wtS w) rest = some r
  | [], _, _, _, _, h => ⟨fun y hy => (by cases hy), h⟩
  | t :: x, rest, w, r, hk, h => by
    simp only [List.cons_append, wtR] at h
    rw [if_neg (hk t (by simp))] at h
    split at h
    · cases h
    · rename_i hb
      obtain ⟨g1, g2⟩ := wtR_app (fun y hy => hk y (by simp [hy])) h
      refine ⟨fun y hy => ?_, g2⟩
      rcases List.mem_cons.1 hy with rfl | hy
      · intro e; exact Decidable.byContradiction fun g => hb ⟨e, g⟩
      · exact g1 y hy
theorem wtR_end {n line : Nat} : ∀ {m : Nat} {w : Int × Bool × List UInt8}, wtR w (List.replicate m ⟨3, line, []⟩ ++ [⟨0, n, []⟩]) = some (w.2.2, w.2.1)
  | 0, w => rfl
  | m + 1, w => by
    rw [List.replicate_succ, List.cons_append]
    show wtR (w.1 - 1, w.2.1, w.2.2) _ = _
    rw [wtR_end]
theorem fold_ts : ∀ {L : List Tok} {z : Int} {b : Bool} {acc : List UInt8}, L ≠ [] → (∀ t ∈ L, 4 ≤ t.kind) → L.foldl wtS (z, b, acc) = (z, false, acc ++ (if b = true then List.replicate (4 * z).toNat (UInt8.ofNat 32) else []) ++ txt L)
  | [], _, _, _, h, _ => absurd rfl h
  | t :: L, z, b, acc, _, hk => by
    have h4 := hk t (by simp)
    have h1 : wtS (z, b, acc) t = (z, false, acc ++ (if b = true then List.replicate (4 * z).toNat (UInt8.ofNat 32) else []) ++ tokX t.kind t.text) := by
      unfold wtS
      rw [if_neg (by omega), if_neg (by omega), if_neg (by omega)]
    rw [List.foldl_cons, h1]
    by_cases hL : L = []
    · subst hL
      simp [txt]
    · rw [fold_ts hL fun t ht => hk t (by simp [ht])]
      simp [txt]
theorem fold_outs {a : Nat} : ∀ {k : Nat} {z : Int} {b : Bool} {acc : List UInt8}, (List.replicate k (⟨3, a, []⟩ : Tok)).foldl wtS (z, b, acc) = (z - k, b, acc)
  | 0, z, b, acc => by simp
  | k + 1, z, b, acc => by
    rw [List.replicate_succ, List.foldl_cons]
    show List.foldl wtS (z - 1, b, acc) _ = _
    rw [fold_outs]
    simp only [Prod.mk.injEq, and_true]
    omega
theorem fold_ins {s s' : Nat} {ins : List Tok} (h : InsF s s' ins) {b : Bool} {acc : List UInt8} : ins.foldl wtS ((s : Int), b, acc) = ((s' : Int), b, acc) := by
  rcases h with ⟨a, rfl, rfl⟩ | ⟨a, k, rfl, rfl⟩
  · show ((s : Int) + 1, b, acc) = _
    rfl
  · rw [fold_outs]
    simp only [Prod.mk.injEq, and_true]
    omega
theorem ind_ins {line n : Nat} {st : List Nat} (h : StOk st) : InsF (st.length - 1) ((indT line st n).2.length - 1) (indT line st n).1 := by
  have h2 := h.ind (line := line) (n := n)
  obtain ⟨u2, e2, _⟩ := h2
  obtain ⟨u, e, _⟩ := h
  have hl : 0 < st.length := by rw [e]; simp
  by_cases hn : st.headD 0 < n
  · left
    unfold indT
    rw [if_pos hn]
    exact ⟨line, rfl, by simp; omega⟩
  · right
    have hi : indT line st n = (List.replicate (st.takeWhile fun x => decide (n < x)).length ⟨3, line, []⟩, st.dropWhile fun x => decide (n < x)) := by unfold indT; rw [if_neg hn]
    rw [hi] at e2
    rw [hi]
    refine ⟨line, _, rfl, ?_⟩
    have := congrArg List.length (List.takeWhile_append_dropWhile (p := fun x => decide (n < x)) (l := st))
    rw [List.length_append] at this
    have h3 : 0 < (st.dropWhile fun x => decide (n < x)).length := by
      simp only at e2
      rw [e2]; simp
    simp only
    omega
/-- Within the writing of a source's tokens. -/
def SimW (out : List Tok) (d n : Nat) (w : Int × Bool × List UInt8) : Prop :=
  (d = 0 ∧ ∃ acc, w = ((n : Int), true, acc) ∧ Rdy out n acc) ∨
  (0 < d ∧ ∃ out0 s acc ins L, out = out0 ++ (ins ++ L) ∧ Rdy out0 s acc ∧ InsF s n ins ∧ L ≠ [] ∧ good L ∧ depL 0 L = d ∧ w = ((n : Int), false, acc ++ rowX n L))
theorem toks_good {line : Nat} : ∀ {f : Nat} {t : List UInt8} {d d' : Nat} {x : List Tok}, toks line f t d = some (x, d') → (∀ y ∈ x, y.kind = 7 → okStr y.text) → good x ∧ depL d x = d'
  | 0, _, _, _, _, h, _ => by cases h
  | f + 1, t, d, d', x, h, hs => by
    simp only [toks] at h
    split at h
    · cases h
      exact ⟨fun t ht => (by cases ht), rfl⟩
    · cases ht : tokT (t.drop (blkN t)) with
      | none => rw [ht] at h; cases h
      | some z =>
        obtain ⟨k, y, n⟩ := z
        rw [ht] at h
        simp only at h
        rw [Option.map_eq_some_iff] at h
        obtain ⟨⟨xs, e⟩, h1, h2⟩ := h
        cases h2
        obtain ⟨g1, g2⟩ := toks_good h1 fun a ha => hs a (by simp [ha])
        refine ⟨fun a ha => ?_, g2⟩
        rcases List.mem_cons.1 ha with rfl | ha
        · exact good_tok ht (hs ⟨k, line, y⟩ (by simp))
        · exact g1 a ha
theorem good_app {A B : List Tok} (h : good A) (g : good B) : good (A ++ B) := fun t ht => by
  rcases List.mem_append.1 ht with ht | ht
  · exact h t ht
  · exact g t ht
theorem sim_row {line d d' : Nat} {t : List UInt8} {st st' : List Nat} {x out : List Tok} {w : Int × Bool × List UInt8} (h : rowT line t d st = .ok (x, d', st')) (hs : StOk st) (hS : SimW out d (st.length - 1) w) (hok : ∀ y ∈ x, y.kind = 7 → okStr y.text) : SimW (out ++ x) d' (st'.length - 1) (x.foldl wtS w) := by
  unfold rowT at h
  split at h
  · cases h; rw [List.append_nil]; exact hS
  · rename_i hb
    split at h
    · cases h
    · split at h
      · cases h
      · rename_i ts d1 ht
        obtain ⟨k1, k2⟩ := toks_kind ht
        have hne := k2 hb
        cases h
        obtain ⟨g1, g2⟩ := toks_good ht fun y hy => hok y (by simp [hy])
        rw [List.foldl_append, List.foldl_append]
        have hz : ∀ n : Nat, (4 * (n : Int)).toNat = 4 * n := fun n => by omega
        rcases hS with ⟨rfl, acc, rfl, hR⟩ | ⟨hd0, out0, s, acc, ins, L, rfl, hR, hI, hLne, hgL, hdL, rfl⟩
        · rw [if_pos rfl, if_pos rfl]
          have hI := ind_ins (line := line) (n := blkN t) hs
          rw [fold_ins hI, fold_ts hne k1, if_pos rfl, hz]
          by_cases h0 : d' = 0
          · subst h0
            rw [if_pos rfl]
            refine .inl ⟨rfl, _, rfl, ?_⟩
            have := hR.row (ln := ⟨1, line, []⟩) hI g1 hne g2 rfl rfl
            unfold rowX at this
            rw [List.append_assoc acc]
            exact this
          · rw [if_neg h0, List.append_nil]
            exact .inr ⟨by omega, out, _, acc, _, ts, rfl, hR, hI, hne, g1, g2, by unfold rowX; rw [List.append_assoc]; rfl⟩
        · have hd9 : ¬ d = 0 := by omega
          simp only [if_neg hd9, List.nil_append, List.foldl_nil]
          rw [fold_ts hne k1, if_neg (show ¬ (false = true) by decide), List.append_nil]
          have e1 : acc ++ rowX (st.length - 1) L ++ txt ts = acc ++ rowX (st.length - 1) (L ++ ts) := by
            unfold rowX txt; simp
          have e2 : depL 0 (L ++ ts) = d' := by rw [depL_app, hdL, g2]
          have hne2 : L ++ ts ≠ [] := by simp [hLne]
          rw [e1]
          by_cases h0 : d' = 0
          · subst h0
            rw [if_pos rfl]
            refine .inl ⟨rfl, _, rfl, ?_⟩
            have := hR.row (ln := ⟨1, line, []⟩) hI (good_app hgL g1) hne2 e2 rfl rfl
            simp only [List.append_assoc] at this ⊢
            exact this
          · rw [if_neg h0, List.append_nil]
            exact .inr ⟨by omega, out0, s, acc, ins, L ++ ts, by simp, hR, hI, hne2, good_app hgL g1, e2, rfl⟩
theorem sim_rows : ∀ {ts : List (List UInt8)} {line d : Nat} {st st' : List Nat} {x out : List Tok} {w : Int × Bool × List UInt8}, rowsT line ts d st = .ok (x, st') → StOk st → SimW out d (st.length - 1) w → (∀ y ∈ x, y.kind = 7 → okStr y.text) → ∃ d', SimW (out ++ x) d' (st'.length - 1) (x.foldl wtS w) ∧ StOk st'
  | [], line, d, st, st', x, out, w, h, hs, hS, hok => by cases h; rw [List.append_nil]; exact ⟨d, hS, hs⟩
  | t :: ts, line, d, st, st', x, out, w, h, hs, hS, hok => by
    rw [rowsT_cons] at h
    cases hr : rowT line t d st with
    | error e => rw [hr] at h; cases h
    | ok q =>
      obtain ⟨x1, d1, st1⟩ := q
      rw [hr] at h
      simp only at h
      cases hq : rowsT (line + 1) ts d1 st1 with
      | error e => rw [hq] at h; cases h
      | ok z =>
        obtain ⟨x2, st2⟩ := z
        rw [hq] at h
        cases h
        have g := sim_row hr hs hS fun y hy => hok y (by simp [hy])
        obtain ⟨d', g1, g2⟩ := sim_rows hq (rowT_end hr hs).1 g fun y hy => hok y (by simp [hy])
        refine ⟨d', ?_, g2⟩
        rw [List.foldl_append, ← List.append_assoc]
        exact g1
theorem rowT_k0 {line d d' : Nat} {t : List UInt8} {st st' : List Nat} {x : List Tok} (h : rowT line t d st = .ok (x, d', st')) : ∀ y ∈ x, y.kind ≠ 0 := by
  unfold rowT at h
  split at h
  · cases h; intro y hy; cases hy
  · split at h
    · cases h
    · split at h
      · cases h
      · rename_i ts d1 ht
        cases h
        intro y hy
        simp only [List.mem_append] at hy
        rcases hy with (hy | hy) | hy
        · split at hy
          · unfold indT at hy
            split at hy
            · simp at hy; rw [hy]; exact (by decide : (2 : Nat) ≠ 0)
            · rw [List.eq_of_mem_replicate hy]; exact (by decide : (3 : Nat) ≠ 0)
          · cases hy
        · have := (toks_kind ht).1 y hy; omega
        · split at hy
          · simp at hy; rw [hy]; exact (by decide : (1 : Nat) ≠ 0)
          · cases hy
theorem rowsT_k0 : ∀ {ts : List (List UInt8)} {line d : Nat} {st st' : List Nat} {x : List Tok}, rowsT line ts d st = .ok (x, st') → ∀ y ∈ x, y.kind ≠ 0
  | [], line, d, st, st', x, h => by cases h; intro y hy; cases hy
  | t :: ts, line, d, st, st', x, h => by
    rw [rowsT_cons] at h
    cases hr : rowT line t d st with
    | error e => rw [hr] at h; cases h
    | ok q =>
      obtain ⟨x1, d1, st1⟩ := q
      rw [hr] at h
      simp only at h
      cases hq : rowsT (line + 1) ts d1 st1 with
      | error e => rw [hq] at h; cases h
      | ok w =>
        rw [hq] at h
        cases h
        intro y hy
        rcases List.mem_append.1 hy with hy | hy
        · exact rowT_k0 hr y hy
        · exact rowsT_k0 hq y hy
theorem split_rows : ∀ {RS : List (List UInt8)}, (∀ r ∈ RS, ∀ c ∈ r, c.toNat ≠ 10) → splitN (RS.flatMap fun r => r ++ [UInt8.ofNat 10]) = RS ++ [[]]
  | [], _ => rfl
  | r :: RS, h => by
    rw [List.flatMap_cons, List.append_assoc, List.singleton_append, split_app, split_row (h r (by simp)), split_rows fun a ha => h a (by simp [ha])]
    rfl
theorem lex_spaces {src W : List UInt8} {ts : List Tok} (h : lexT src = .ok ts) (hw : wtR (0, true, []) ts = some (W, true)) (hl : W.length ≤ 20000) : ∃ us, lexT W = .ok us ∧ AlT ts us := by
  unfold lexT at h
  split at h
  · cases h
  · cases hr : rowsT 1 (splitN src) 0 [0] with
    | error e => rw [hr] at h; cases h
    | ok q =>
      obtain ⟨x, st⟩ := q
      rw [hr] at h
      cases h
      obtain ⟨k1, k2⟩ := wtR_app (rowsT_k0 hr) hw
      have hS0 : SimW [] 0 ([0].length - 1) (0, true, []) := .inl ⟨rfl, [], rfl, Rdy.init⟩
      obtain ⟨d', hS, hs⟩ := sim_rows hr StOk.init hS0 k1
      unfold endT at k2
      rw [wtR_end] at k2
      rcases hS with ⟨_, acc, hwe, RS, out', hacc, hD, hA, hno⟩ | ⟨_, out0, s, acc, ins, L, _, _, _, _, _, _, hwe⟩
      · rw [hwe] at k2
        simp only [Option.some.injEq, Prod.mk.injEq, and_true] at k2
        subst k2
        rw [hacc] at hl ⊢
        refine ⟨out' ++ endT (RS.length + 1) (stk (st.length - 1)), ?_, ?_⟩
        · unfold lexT
          rw [if_neg (by omega), split_rows hno, rowsT_app, hD]
          simp only
          rw [rows_blank (t := []) (show 0 ≤ _ from Nat.zero_le _)]
          simp only [rowsT, mp2, List.append_nil, List.length_append, List.length_singleton]
        · rw [List.nil_append] at hA
          refine hA.app ?_
          unfold endT AlT
          rw [stk_len]
          obtain ⟨u, hu, _⟩ := hs
          simp
      · rw [hwe] at k2
        simp at k2
end Can
end Go.Proofs.Ytmglmoehlegojaa
