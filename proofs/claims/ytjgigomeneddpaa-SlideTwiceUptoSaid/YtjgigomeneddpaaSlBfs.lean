/- Slide: the reference's Reach: a queue of words. -/
import Derived.Test.YtjgigomeneddpaaSlReach
import Derived.Test.YtjgigomeneddpaaSlRef
namespace Go.Proofs.Ytjgigomeneddpaa
namespace Can
open Go Go.RowKit
set_option linter.unusedSimpArgs false
set_option linter.unusedVariables false
set_option maxRecDepth 4000
theorem rcL_bound {ws roots : List Int} {tn : Nat} {ls : List Nat} (hF : Form ws tn ls) : (intsN (rcL ws roots ls)).length ≤ 1048576 := by
  have e1 : (intsN (rcL ws roots ls)).length = (rcL ws roots ls).length := by simp [intsN]
  have := rcL_len (ws := ws) (roots := roots) (ls := ls)
  have := hF.ch.len
  have := hF.top
  have := hF.len
  omega
theorem rcL_wf {ws roots : List Int} {tn : Nat} {ls : List Nat} (hF : Form ws tn ls) : ∀ x ∈ intsN (rcL ws roots ls), (Lit.int .i64 x).wf = true := by
  intro x hx
  obtain ⟨a, ha, rfl⟩ := List.mem_map.1 hx
  have hal : a ∈ ls := by unfold rcL at ha; exact (List.mem_filter.1 ha).1
  have := obj_lt2 hF hal
  simp [Lit.wf, IntKind.min, IntKind.max, IntKind.signed, IntKind.bits]; omega
theorem rt_ok {ws roots : List Int} {tn : Nat} {ls : List Nat} (hrs : ∀ w ∈ roots, 0 ≤ w ∧ w < 18446744073709551616) (hf : formF ws tn = some (intsN ls)) (h : rtB ws tn roots = true) : RtOk ls roots := fun w hwm => by
  unfold rtB at h
  rw [hf] at h
  have h := List.all_eq_true.1 h w hwm
  have hwu := hrs w hwm
  rw [Int.toNat_natCast] at h
  unfold refOk at h
  split at h
  · cases h
  · rename_i h3
    refine ⟨h3, fun h0 => ?_⟩
    rw [if_pos h0, decide_eq_true_eq] at h
    exact (mem_intsN_adr hwu.1).1 h.2
theorem form_top {ws : List Int} {top : Int} {l : List Int} (h : formF ws top = some l) : ∃ tn : Nat, top = (tn : Int) := by
  unfold formF at h
  split at h
  · cases h
  · rename_i hg
    exact ⟨top.toNat, by omega⟩
theorem sorted_ext : ∀ {l l' : List Nat}, l.Pairwise (· < ·) → l'.Pairwise (· < ·) → (∀ x, x ∈ l ↔ x ∈ l') → l = l'
  | [], [], _, _, _ => rfl
  | [], b :: l', _, _, h => by have := (h b).2 (List.mem_cons_self ..); cases this
  | a :: l, [], _, _, h => by have := (h a).1 (List.mem_cons_self ..); cases this
  | a :: l, b :: l', hs, hs', h => by
    have h1 := List.pairwise_cons.1 hs
    have h2 := List.pairwise_cons.1 hs'
    have e : a = b := by
      rcases List.mem_cons.1 ((h a).1 (List.mem_cons_self ..)) with e | e
      · exact e
      · rcases List.mem_cons.1 ((h b).2 (List.mem_cons_self ..)) with e' | e'
        · exact e'.symm
        · have := h1.1 _ e'; have := h2.1 _ e; omega
    subst e
    rw [sorted_ext h1.2 h2.2 fun x => ?_]
    constructor
    · intro hx
      rcases List.mem_cons.1 ((h x).1 (List.mem_cons_of_mem _ hx)) with e | e
      · have := h1.1 _ hx; omega
      · exact e
    · intro hx
      rcases List.mem_cons.1 ((h x).2 (List.mem_cons_of_mem _ hx)) with e | e
      · have := h2.1 _ hx; omega
      · exact e
theorem rcL_eq {ws roots : List Int} {tn : Nat} {ls : List Nat} (hF : Form ws tn ls) (hr : RtOk ls roots) {p : Nat → Bool} (hp : ∀ i, i < tn → (p i = true ↔ Rc ws roots i)) : (List.range tn).filter p = rcL ws roots ls := by
  refine sorted_ext (List.pairwise_lt_range.filter _) ?_ fun x => ?_
  · unfold rcL
    refine List.Pairwise.filter _ (List.Pairwise.imp_of_mem (fun {x y} hx hy hxy => ?_) hF.ch.apart)
    have := (hF.ch.mem x hx).2.1
    omega
  · rw [mem_rcL hF hr, List.mem_filter, List.mem_range]
    constructor
    · rintro ⟨h1, h2⟩; exact (hp x h1).1 h2
    · intro h
      have h1 := hF.ch.mem x (h.mem hF hr)
      have : x < tn := by omega
      exact ⟨this, (hp x this).2 h⟩
/-- A list of words copied behind an empty list. -/
theorem copy_gr {k : IntKind} {e bytes l : Nat} {K K1 : CH} {q : Option Addr} {c : Nat} {xs : List Int} (hs : SlAt 1 (CInt k) K q c xs) (hx : HExt K K1) (hb : xs.length * bytes ≤ 140737488355328) (hm : xs.length ≤ 9223372036854775807) (hl : K1.ob l = .cells [] e .ex) (hl1 : l < K1.nx)
    {Q : Value → CH → Prop} (kk : ∀ x c2 K2 kd, K1.nx ≤ K2.nx → (∀ y, y < K1.nx → K2.ob y = K1.ob y) → (x = l ∨ K1.nx ≤ x) → x < K2.nx → K2.ob x = .cells (xs.map (.int k)) e kd → xs.length ≤ c2 → c2 ≤ 9223372036854775807 → (xs ≠ [] → kd = .gr) → Q (.slice (some ⟨x, 0, none⟩) xs.length c2) K2) :
    optW (appS (srcCells K1 1 (.slice q xs.length c)) e 1 bytes (.slice (some ⟨l, 0, none⟩) 0 0) K1) Q := by
  rw [src_ints (hs.good (CInt.good _) hx), flat_ints, appS_some, appV_r, hl, appR_c]
  by_cases e0 : xs.length = 0
  · have : xs = [] := List.length_eq_zero_iff.1 e0
    rw [if_pos e0, optW_some]
    subst this
    exact kk l 0 K1 .ex (Nat.le_refl _) (fun _ _ => rfl) (.inl rfl) hl1 hl (Nat.le_refl _) (by omega) fun h => absurd rfl h
  · have hall : (xs.map (Value.int k)).all isCell = true := by simp [isCell]
    have hfull : (Kd.ex.isEx && decide (0 < 0 + xs.length)) = true := by simp [Kd.isEx]; omega
    rw [if_neg e0, if_pos ⟨rfl, rfl, rfl, by simp, hall, by simpa using hb, by rw [maxLen_eq]; omega⟩, optW_some, hfull]
    simp only [appH, if_true, Nat.zero_mul, List.take_zero, List.nil_append, Nat.zero_add]
    exact kk _ _ _ .gr (Nat.le_succ _) (fun x hx => by rw [new_get, if_neg (by omega)]) (.inr (Nat.le_refl _)) (Nat.lt_succ_self _) (by rw [new_get, if_pos rfl]) (Nat.le_refl _) hm fun _ => rfl
theorem slice_all {l o n c sz : Nat} {lo hi : Int} (h1 : 0 ≤ lo) (h2 : lo ≤ hi) (h3 : hi ≤ c) : sliceV sz (.slice (some ⟨l, o, none⟩) n c) lo hi c false = some (.slice (some ⟨l, o + lo.toNat * sz, none⟩) (hi - lo).toNat ((c : Int) - lo).toNat) := by
  unfold sliceV
  simp only [Bool.false_eq_true, if_false]
  rw [if_pos (by omega)]
  by_cases h : lo = (c : Int)
  · rw [if_pos h]
    have e1 : (hi - lo).toNat = 0 := by omega
    have e2 : ((c : Int) - lo).toNat = 0 := by omega
    rw [e1, e2]
  · rw [if_neg h]
/-- The queue. -/
def Todo (K : CH) (lo : Nat) (v : Value) (pend : List Int) : Prop := ∃ x o c cs kd, v = .slice (some ⟨x, o, none⟩) pend.length c ∧ lo ≤ x ∧ x < K.nx ∧ K.ob x = .cells cs 50 kd ∧ pend.length ≤ c ∧ c ≤ maxLen ∧ o + pend.length ≤ cs.length ∧ (∀ i, i < pend.length → cs[o + i]? = some (.int .u64 (pend.getD i 0))) ∧ (pend ≠ [] → kd = .gr)
theorem slice1 {l o n c : Nat} (h1 : 1 ≤ n) (h2 : n ≤ c) : sliceV 1 (.slice (some ⟨l, o, none⟩) n c) 1 n c false = some (.slice (some ⟨l, o + 1, none⟩) (n - 1) (c - 1)) := by
  unfold sliceV
  simp only [Bool.false_eq_true, if_false]
  rw [if_pos (by omega)]
  by_cases h : (1 : Int) = (c : Int)
  · rw [if_pos h]
    have e1 : n = 1 := by omega
    have e2 : c = 1 := by omega
    subst e1 e2
    rfl
  · rw [if_neg h]
    have e1 : ((n : Int) - 1).toNat = n - 1 := by omega
    have e2 : ((c : Int) - 1).toNat = c - 1 := by omega
    rw [e1, e2]
    rfl
/-- An append to what is left of the queue. -/
theorem todo_app {K : CH} {x o n c : Nat} {cs : List Value} {pend ys : List Int} {xs : List Value} (hn : n = pend.length) (hx : x < K.nx) (hob : K.ob x = .cells cs 50 .gr) (ho : 1 ≤ o) (hnc : n ≤ c) (hc : c ≤ maxLen) (hol : o + n ≤ cs.length) (hcs : ∀ i, i < n → cs[o + i]? = some (.int .u64 (pend.getD i 0))) (hxs : xs = ys.map (.int .u64)) (hb : pend.length + ys.length ≤ 17592188141056) {lo : Nat} (hlo : lo ≤ x)
    {Q : Value → CH → Prop} (k : ∀ v' K', Todo K' lo v' (pend ++ ys) → K.nx ≤ K'.nx → (∀ l, l < K.nx → l ≠ x → K'.ob l = K.ob l) → Q v' K') : optW (appV 50 1 8 (.slice (some ⟨x, o, none⟩) n c) xs ys.length K) Q := by
  subst hxs hn
  rw [appV_r, hob, appR_c]
  by_cases hm : ys.length = 0
  · rw [if_pos hm]
    have : ys = [] := List.length_eq_zero_iff.1 hm
    subst this
    refine k _ _ ⟨x, o, c, cs, .gr, by simp, hlo, hx, hob, by simpa using hnc, hc, by simpa using hol, fun i hi => ?_, fun _ => rfl⟩ (Nat.le_refl _) fun _ _ _ => rfl
    simp only [List.append_nil] at hi ⊢
    exact hcs i hi
  · have hall : (ys.map (Value.int .u64)).all isCell = true := by simp [isCell]
    rw [if_neg hm, if_neg (fun h => by omega), if_neg (fun h => by cases h.1), if_pos ⟨rfl, rfl, rfl, by omega, hall, by omega, by rw [maxLen_eq]; omega⟩]
    refine k _ _ ⟨K.nx, 0, pend.length + ys.length, _, .gr, by simp, by omega, by show K.nx < K.nx + 1; omega, new_get.trans (if_pos rfl), by simp, by rw [maxLen_eq]; omega, by simp; omega, fun i hi => ?_, fun _ => rfl⟩ (by show K.nx ≤ K.nx + 1; omega) fun l hl hne => ?_
    · have hlen : ((cs.drop o).take (pend.length * 1)).length = pend.length := by simp; omega
      rw [Nat.zero_add]
      by_cases h : i < pend.length
      · rw [List.getElem?_append_left (by omega), List.getElem?_take_of_lt (by omega), List.getElem?_drop, hcs i h]
        simp only [List.getD_eq_getElem?_getD, List.getElem?_append_left h]
      · rw [List.getElem?_append_right (by omega), hlen]
        have hi' : i - pend.length < ys.length := by simp at hi; omega
        rw [get_map (d := 0) hi']
        simp only [List.getD_eq_getElem?_getD, List.getElem?_append_right (show pend.length ≤ i by omega)]
    · rw [new_get, if_neg (by show ¬ l = K.nx; omega), set_get, if_neg hne]
/-- The tagged words of an object. -/
def flds (ws : List Int) (a : Nat) : List Int := (List.range (tgN ws a)).map fun i => wd ws (a + 2 + i)
theorem flds_len {ws : List Int} {a : Nat} : (flds ws a).length = tgN ws a := by simp [flds]
theorem mem_flds {ws : List Int} {a : Nat} {w : Int} : w ∈ flds ws a ↔ ∃ i, i < tgN ws a ∧ wd ws (a + 2 + i) = w := by
  simp [flds]
theorem src_flds {K : CH} {ws : List Int} {os : List Value} {e l o a cc : Nat} {kd : Kd} (hob : K.ob l = .cells os e kd) (hos : ∀ i, i < ws.length → os[o + i]? = some (.int .u64 (ws.getD i 0))) (h : a + 2 + tgN ws a ≤ ws.length) (hol : o + ws.length ≤ os.length) :
    srcCells K 1 (.slice (some ⟨l, o + (a + 2), none⟩) (tgN ws a) cc) = some ((flds ws a).map (.int .u64), (flds ws a).length) := by
  rw [src_r, flds_len]
  by_cases h0 : tgN ws a = 0
  · rw [if_pos h0, h0]
    have : flds ws a = [] := List.length_eq_zero_iff.1 (by rw [flds_len, h0])
    rw [this]; rfl
  · rw [if_neg h0, hob, srcR_c, if_pos (by omega)]
    congr 2
    apply List.ext_getElem?
    intro i
    by_cases hi : i < tgN ws a
    · rw [List.getElem?_take_of_lt (by omega), List.getElem?_drop, Nat.add_assoc, hos (a + 2 + i) (by omega), List.getElem?_map]
      unfold flds
      rw [List.getElem?_map, List.getElem?_range hi]
      rfl
    · rw [List.getElem?_eq_none (by simp; omega), List.getElem?_eq_none (by rw [List.length_map, flds_len]; omega)]
/-- How many tagged words the objects that are not marked have. -/
def rest (ws : List Int) (ls : List Nat) (bs : List Bool) : Nat := ((ls.filter fun a => !bs.getD a false).map (tgN ws)).sum
theorem rest_set {ws : List Int} {bs : List Bool} {a : Nat} (hb : a < bs.length) (hf : bs.getD a false = false) : ∀ {ls : List Nat}, ls.Nodup → a ∈ ls → rest ws ls (bs.set a true) + tgN ws a = rest ws ls bs
  | [], _, h => by cases h
  | x :: ls, hn, h => by
    have hn' := List.nodup_cons.1 hn
    unfold rest
    by_cases e : x = a
    · subst e
      have h1 : (bs.set x true).getD x false = true := by rw [getD_setb hb, if_pos rfl]
      simp only [List.filter_cons, h1, hf, Bool.not_true, Bool.not_false, if_true, Bool.false_eq_true, if_false, List.map_cons, List.sum_cons]
      have : (ls.filter fun a => !(bs.set x true).getD a false) = ls.filter fun a => !bs.getD a false := by
        apply List.filter_congr
        intro y hy
        rw [getD_setb hb, if_neg (fun e => hn'.1 (by rw [← e]; exact hy))]
      rw [this]; omega
    · have h1 : (bs.set a true).getD x false = bs.getD x false := by rw [getD_setb hb, if_neg e]
      have ih := rest_set (ws := ws) hb hf hn'.2 (by
        rcases List.mem_cons.1 h with h | h
        · exact absurd h.symm e
        · exact h)
      unfold rest at ih
      simp only [List.filter_cons, h1]
      cases bs.getD x false with
      | true => simpa using ih
      | false => simp only [Bool.not_false, if_true, List.map_cons, List.sum_cons]; omega
theorem rest_le {ws : List Int} {sz : Nat → Nat} {tn : Nat} (hs : ∀ x, sz x = szN ws x) : ∀ {a : Nat} {ls : List Nat}, Ch sz tn a ls → (∀ x ∈ ls, isObj ws tn x = true) → (ls.map (tgN ws)).sum + a ≤ tn
  | _, _, .nil, _ => by simp
  | _, _, .cons (a := a) h hr, ho => by
    have ih := rest_le hs hr fun x hx => ho x (List.mem_cons_of_mem _ hx)
    have := isObj_sz (ho a (List.mem_cons_self ..))
    have := hs a
    simp only [List.map_cons, List.sum_cons]
    omega
theorem rest_nil {ws : List Int} {tn : Nat} {ls : List Nat} (hF : Form ws tn ls) : rest ws ls (List.replicate tn false) + 1 ≤ tn := by
  have h := rest_le (fun _ => rfl) hF.ch hF.ob
  have e : (ls.filter fun a => !(List.replicate tn false).getD a false) = ls := by
    rw [List.filter_eq_self]
    intro a _
    rw [getD_rep]; rfl
  unfold rest
  rw [e]; exact h
end Can
end Go.Proofs.Ytjgigomeneddpaa
