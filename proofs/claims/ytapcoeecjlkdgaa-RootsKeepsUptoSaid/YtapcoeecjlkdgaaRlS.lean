/- Flow: the memory of the document's Live: rows of words, rows of lists that grow. -/
import Derived.Test.YtapcoeecjlkdgaaFlPthF
namespace Go.Proofs.Ytapcoeecjlkdgaa
namespace Can
open Go Go.RowKit
set_option linter.unusedSimpArgs false
set_option linter.unusedVariables false
set_option maxRecDepth 4000
section
variable {α : Type}
def gvV (nm : List Nat) (ls : List (List α)) (j : Nat) : Value := if (ls.getD j []).length = 0 then .slice none 0 0 else .slice (some ⟨nm.getD j 0, 0, none⟩) (ls.getD j []).length (ls.getD j []).length
/-- Is the name a row of one of the lists? -/
def Own (nm : List Nat) (ls : List (List α)) (n x : Nat) : Prop := ∃ j, j < n ∧ (ls.getD j []).length ≠ 0 ∧ x = nm.getD j 0
/-- A row of lists that grow, each in its own memory. -/
structure GL (K : CH) (lo b n : Nat) (e eo : TypeId) (f : α → List Value) (nm : List Nat) (ls : List (List α)) : Prop where
  vs : ∃ vs, K.ob b = .cells vs eo .ex ∧ vs.length = n ∧ ∀ j, j < n → vs[j]? = some (gvV nm ls j)
  nl : nm.length = n
  ll : ls.length = n
  row : ∀ j, j < n → (ls.getD j []).length ≠ 0 → lo ≤ nm.getD j 0 ∧ nm.getD j 0 < K.nx ∧ K.ob (nm.getD j 0) = .cells ((ls.getD j []).flatMap f) e .gr
  nd : ∀ i j, i < n → j < n → i ≠ j → (ls.getD i []).length ≠ 0 → (ls.getD j []).length ≠ 0 → nm.getD i 0 ≠ nm.getD j 0
  lb : b < lo
theorem GL.own {K : CH} {lo b n : Nat} {e eo : TypeId} {f : α → List Value} {nm : List Nat} {ls : List (List α)} (h : GL K lo b n e eo f nm ls) {x : Nat} (hx : Own nm ls n x) : lo ≤ x ∧ x < K.nx ∧ ∃ cs, K.ob x = .cells cs e .gr := by
  obtain ⟨j, h1, h2, rfl⟩ := hx
  obtain ⟨a, b, c⟩ := h.row j h1 h2
  exact ⟨a, b, _, c⟩
theorem GL.mv {K K' : CH} {lo b n : Nat} {e eo : TypeId} {f : α → List Value} {nm : List Nat} {ls : List (List α)} (h : GL K lo b n e eo f nm ls) (hn : K.nx ≤ K'.nx) (hb : K'.ob b = K.ob b) (hr : ∀ x, Own nm ls n x → K'.ob x = K.ob x) : GL K' lo b n e eo f nm ls where
  vs := by obtain ⟨vs, h1, h2⟩ := h.vs; exact ⟨vs, hb.trans h1, h2⟩
  nl := h.nl
  ll := h.ll
  row j hj hl := by
    obtain ⟨a, b, c⟩ := h.row j hj hl
    exact ⟨a, by omega, (hr _ ⟨j, hj, hl, rfl⟩).trans c⟩
  nd := h.nd
  lb := h.lb
theorem getD_setL {ls : List (List α)} {j i : Nat} {x : List α} (h : j < ls.length) : (ls.set j x).getD i [] = if i = j then x else ls.getD i [] := by
  simp only [List.getD_eq_getElem?_getD, List.getElem?_set]
  by_cases e : j = i
  · subst e; simp [h]
  · rw [if_neg e, if_neg (by omega)]
theorem getD_setN {ls : List Nat} {j i x : Nat} (h : j < ls.length) : (ls.set j x).getD i 0 = if i = j then x else ls.getD i 0 := by
  simp only [List.getD_eq_getElem?_getD, List.getElem?_set]
  by_cases e : j = i
  · subst e; simp [h]
  · rw [if_neg e, if_neg (by omega)]
theorem setc_get {l : List Value} {i j : Nat} {v : Value} (h : i < l.length) : (setCells l i [v])[j]? = if j = i then some v else l[j]? := by
  have : setCells l i [v] = l.set i v := by
    unfold setCells
    rw [List.set_eq_take_append_cons_drop, if_pos h]
    simp
  rw [this, List.getElem?_set]
  by_cases e : i = j
  · subst e; simp [h]
  · rw [if_neg e, if_neg (by omega)]
theorem setc_len {l : List Value} {i : Nat} {v : Value} (h : i < l.length) : (setCells l i [v]).length = l.length := by
  simp [setCells]; omega
/-- Who owns a row behind an append to list j. -/
theorem own_set {nm : List Nat} {ls : List (List α)} {n j y x : Nat} {w : List α} (hl : ls.length = n) (hm : nm.length = n) (hj : j < n) (h : Own (nm.set j x) (ls.set j w) n y) : y = x ∨ Own nm ls n y := by
  obtain ⟨i, hi, h1, h2⟩ := h
  rw [getD_setL (by omega)] at h1
  rw [getD_setN (by omega)] at h2
  by_cases e : i = j
  · rw [if_pos e] at h2; exact .inl h2
  · rw [if_neg e] at h1 h2; exact .inr ⟨i, hi, h1, h2⟩
theorem gl_app {K : CH} {lo b n sz bytes : Nat} {e eo : TypeId} {f : α → List Value} {nm : List Nat} {ls : List (List α)} (hf : ∀ x, (f x).length = sz ∧ (f x).all isCell = true) (h : GL K lo b n e eo f nm ls) (hlo : lo ≤ K.nx) {j : Nat} (hj : j < n) {x : α} (hb : ((ls.getD j []).length + 1) * bytes ≤ 140737488355328) (hm : (ls.getD j []).length + 1 ≤ 9223372036854775807) {us : List Value} (hu : us = f x)
    {Q : Value → CH → Prop} (k : ∀ K', K'.nx = K.nx + 1 → (∀ y, y < K.nx → ((ls.getD j []).length ≠ 0 → y ≠ nm.getD j 0) → K'.ob y = K.ob y) →
      (∀ vs, K.ob b = .cells vs eo .ex → GL (K'.set b (.cells (setCells vs j [.slice (some ⟨K.nx, 0, none⟩) ((ls.getD j []).length + 1) ((ls.getD j []).length + 1)]) eo .ex)) lo b n e eo f (nm.set j K.nx) (ls.set j (ls.getD j [] ++ [x]))) →
      Q (.slice (some ⟨K.nx, 0, none⟩) ((ls.getD j []).length + 1) ((ls.getD j []).length + 1)) K') :
    optW (appV e sz bytes (gvV nm ls j) us 1 K) Q := by
  subst hu
  have hfl := flat_len (f := f) (sz := sz) (fun x => (hf x).1)
  have fin : ∀ K', K'.nx = K.nx + 1 → K'.ob K.nx = .cells ((ls.getD j [] ++ [x]).flatMap f) e .gr → (∀ y, y < K.nx → ((ls.getD j []).length ≠ 0 → y ≠ nm.getD j 0) → K'.ob y = K.ob y) → Q (.slice (some ⟨K.nx, 0, none⟩) ((ls.getD j []).length + 1) ((ls.getD j []).length + 1)) K' := fun K' hn hat hot => by
    refine k K' hn hot fun vs hvs => ?_
    obtain ⟨vs', hvs', hvl, hvj⟩ := h.vs
    rw [hvs'] at hvs
    cases hvs
    have hlb := h.lb
    have hnl := h.nl
    have hll := h.ll
    refine ⟨⟨_, by rw [set_get, if_pos rfl], by rw [setc_len (by omega)]; exact hvl, fun i hi => ?_⟩, by simp [h.nl], by simp [h.ll], fun i hi hl => ?_, fun a c ha hc hac h1 h2 => ?_, h.lb⟩
    · rw [setc_get (by omega)]
      unfold gvV
      rw [getD_setL (by omega), getD_setN (by omega)]
      by_cases e : i = j
      · rw [if_pos e, if_pos e, if_pos e]; simp
      · rw [if_neg e, if_neg e, if_neg e]; exact hvj i hi
    · rw [getD_setL (by omega)] at hl ⊢
      rw [getD_setN (by omega)]
      by_cases e : i = j
      · rw [if_pos e, if_pos e]
        refine ⟨hlo, by simp only [set_nx]; omega, ?_⟩
        rw [set_get, if_neg (by omega)]; exact hat
      · rw [if_neg e] at hl ⊢
        rw [if_neg e]
        obtain ⟨r1, r2, r3⟩ := h.row i hi hl
        refine ⟨r1, by simp only [set_nx]; omega, ?_⟩
        rw [set_get, if_neg (by omega), hot _ r2 (fun hj' => h.nd i j hi hj e hl hj')]
        exact r3
    · rw [getD_setL (by omega)] at h1 h2
      rw [getD_setN (by omega), getD_setN (by omega)]
      by_cases ea : a = j
      · rw [if_pos ea, if_neg (by omega)]
        rw [if_neg (by omega)] at h2
        have := (h.row c hc h2).2.1
        omega
      · rw [if_neg ea] at h1 ⊢
        by_cases ec : c = j
        · rw [if_pos ec]
          have := (h.row a ha h1).2.1
          omega
        · rw [if_neg ec] at h2 ⊢
          exact h.nd a c ha hc hac h1 h2
  by_cases h0 : (ls.getD j []).length = 0
  · have hnil : ls.getD j [] = [] := List.length_eq_zero_iff.1 h0
    unfold gvV
    rw [if_pos h0, appV_n, if_neg (by decide), if_pos ⟨(hf x).2, by rw [h0] at hb; simpa using hb, by rw [maxLen_eq]; decide⟩, optW_some]
    have := fin (K.new (.cells (f x) e .gr)) rfl (by rw [new_get, if_pos rfl, hnil]; simp) (fun y hy _ => by rw [new_get, if_neg (by omega)])
    rw [h0] at this
    exact this
  · obtain ⟨r1, r2, r3⟩ := h.row j hj h0
    unfold gvV
    rw [if_neg h0, appV_r, r3, appR_c, if_neg (by decide), if_pos ⟨rfl, rfl, rfl, by rw [hfl]; exact Nat.le_refl _, (hf x).2, hb, by rw [maxLen_eq]; exact hm⟩, optW_some]
    have hkx : (Kd.gr.isEx && decide ((ls.getD j []).length < (ls.getD j []).length + 1)) = false := rfl
    rw [hkx, appH_f, ← hfl, List.take_length]
    refine fin _ rfl ?_ fun y hy hne => ?_
    · rw [new_get, if_pos (show K.nx = (K.set _ _).nx from rfl), List.flatMap_append]; simp
    · rw [new_get, if_neg (by show y ≠ K.nx; omega), set_get, if_neg (hne h0)]
end
/-- Rows of words. -/
structure OR (K : CH) (lo bo n W : Nat) (rows : List Nat) (mm : List (List Nat)) : Prop where
  out : K.ob bo = .cells (outC W n rows) 36 .ex
  le : rows.length ≤ n
  len : rows.length = mm.length
  nd : rows.Nodup
  los : ∀ x ∈ rows, lo ≤ x ∧ x < K.nx
  row : ∀ i, i < rows.length → K.ob (rows.getD i 0) = .cells (wordC (mm.getD i [])) 40 .ex
  wl : ∀ i, i < rows.length → (mm.getD i []).length = W
  w64 : ∀ i, i < rows.length → W64 (mm.getD i [])
  lb : bo < lo
theorem OR.mv {K K' : CH} {lo bo n W : Nat} {rows : List Nat} {mm : List (List Nat)} (h : OR K lo bo n W rows mm) (hn : K.nx ≤ K'.nx) (hb : K'.ob bo = K.ob bo) (hr : ∀ x ∈ rows, K'.ob x = K.ob x) : OR K' lo bo n W rows mm :=
  ⟨hb.trans h.out, h.le, h.len, h.nd, fun x hx => by have := h.los x hx; omega, fun i hi => (hr _ (getD_mem hi)).trans (h.row i hi), h.wl, h.w64, h.lb⟩
theorem OR.put {K : CH} {lo bo n W : Nat} {rows : List Nat} {mm : List (List Nat)} (h : OR K lo bo n W rows mm) {i : Nat} (hi : i < rows.length) {ws : List Nat} (hl : ws.length = W) (hw : W64 ws) : OR (K.set (rows.getD i 0) (.cells (wordC ws) 40 .ex)) lo bo n W rows (mm.set i ws) := by
  have hlo := h.los _ (getD_mem hi)
  have hlen := h.len
  have hlb := h.lb
  refine ⟨?_, h.le, by simp [h.len], h.nd, h.los, fun j hj => ?_, fun j hj => ?_, fun j hj => ?_, h.lb⟩
  · rw [set_get, if_neg (by omega)]; exact h.out
  · rw [getD_setM (by omega), set_get]
    by_cases e : j = i
    · subst e; rw [if_pos rfl, if_pos rfl]
    · rw [if_neg (fun e' => e (nd_inj h.nd hj hi e')), if_neg e]; exact h.row j hj
  · rw [getD_setM (by omega)]; split
    · exact hl
    · exact h.wl j hj
  · rw [getD_setM (by omega)]; split
    · exact hw
    · exact h.w64 j hj
theorem OR.push {K K' : CH} {lo bo n W : Nat} {rows : List Nat} {mm : List (List Nat)} (h : OR K lo bo n W rows mm) (hlt : rows.length < n) {b : Nat} (hb : K.nx ≤ b) (hl : lo ≤ b) (hn : b < K'.nx) {ws : List Nat} (hwl : ws.length = W) (hw : W64 ws) (ho : K'.ob bo = .cells (outC W n (rows ++ [b])) 36 .ex) (hr : K'.ob b = .cells (wordC ws) 40 .ex) (hk : ∀ x ∈ rows, K'.ob x = K.ob x) : OR K' lo bo n W (rows ++ [b]) (mm ++ [ws]) := by
  have hlen := h.len
  have g1 : ∀ i, i < rows.length → (rows ++ [b]).getD i 0 = rows.getD i 0 := fun i hi => by
    simp only [List.getD_eq_getElem?_getD]; rw [List.getElem?_append_left hi]
  have g2 : ∀ i, i < rows.length → (mm ++ [ws]).getD i [] = mm.getD i [] := fun i hi => by
    simp only [List.getD_eq_getElem?_getD]; rw [List.getElem?_append_left (by omega)]
  have g3 : (rows ++ [b]).getD rows.length 0 = b := by simp
  have g4 : (mm ++ [ws]).getD rows.length [] = ws := by rw [hlen]; simp
  refine ⟨ho, by simp; omega, by simp [hlen], ?_, fun x hx => ?_, fun i hi => ?_, fun i hi => ?_, fun i hi => ?_, h.lb⟩
  · rw [List.nodup_append]
    refine ⟨h.nd, by simp, fun x hx y hy => ?_⟩
    simp at hy; subst hy
    have := (h.los x hx).2
    omega
  · rcases List.mem_append.1 hx with hx | hx
    · have := h.los x hx; omega
    · simp at hx; omega
  · by_cases e : i < rows.length
    · rw [g1 i e, g2 i e, hk _ (getD_mem e)]; exact h.row i e
    · have : i = rows.length := by simp at hi; omega
      subst this; rw [g3, g4]; exact hr
  · by_cases e : i < rows.length
    · rw [g2 i e]; exact h.wl i e
    · have : i = rows.length := by simp at hi; omega
      subst this; rw [g4]; exact hwl
  · by_cases e : i < rows.length
    · rw [g2 i e]; exact h.w64 i e
    · have : i = rows.length := by simp at hi; omega
      subst this; rw [g4]; exact hw
/-- One back: where from, and what is written. -/
def bakC (e : WayE) : List Value := [.int .i64 e.t, .slice e.q e.ws.length e.c]
theorem bakC_ok : ∀ e, (bakC e).length = 2 ∧ (bakC e).all isCell = true := fun e => ⟨rfl, rfl⟩
def natC (x : Nat) : List Value := [.int .i64 (x : Int)]
theorem natC_ok : ∀ e, (natC e).length = 1 ∧ (natC e).all isCell = true := fun e => ⟨rfl, rfl⟩
/-- The whole memory. -/
structure RS (K : CH) (lo bo bb br n R W : Nat) (rows : List Nat) (mm : List (List Nat)) (nb : List Nat) (bl : List (List WayE)) (nr : List Nat) (rl : List (List Nat)) : Prop where
  o : OR K lo bo n W rows mm
  b : GL K lo bb n 76 74 bakC nb bl
  r : GL K lo br R 3 39 natC nr rl
  ne : bo ≠ bb ∧ bo ≠ br ∧ bb ≠ br
  nx : lo ≤ K.nx
  q : ∀ t, t < n → ∀ e ∈ bl.getD t [], SlAt 1 (CInt .i64) K e.q e.c e.ws ∧ ∀ l o, e.q = some ⟨l, o, none⟩ → lo ≤ l ∧ l < K.nx ∧ l ∉ rows ∧ ¬ Own nb bl n l ∧ ¬ Own nr rl R l
section
variable {K K' : CH} {lo bo bb br n R W : Nat} {rows : List Nat} {mm : List (List Nat)} {nb : List Nat} {bl : List (List WayE)} {nr : List Nat} {rl : List (List Nat)}
theorem RS.d1 (h : RS K lo bo bb br n R W rows mm nb bl nr rl) {x : Nat} (hx : x ∈ rows) : ¬ Own nb bl n x ∧ ¬ Own nr rl R x := by
  obtain ⟨i, hi, rfl⟩ := List.getElem_of_mem hx
  have h1 := h.o.row i hi
  have e : rows.getD i 0 = rows[i] := by simp [List.getD, List.getElem?_eq_getElem hi]
  rw [e] at h1
  constructor
  · intro ho; obtain ⟨_, _, cs, h2⟩ := h.b.own ho; rw [h1] at h2; cases h2
  · intro ho; obtain ⟨_, _, cs, h2⟩ := h.r.own ho; rw [h1] at h2; cases h2
theorem RS.d2 (h : RS K lo bo bb br n R W rows mm nb bl nr rl) {x : Nat} (hx : Own nb bl n x) : ¬ Own nr rl R x := fun ho => by
  obtain ⟨_, _, cs, h1⟩ := h.b.own hx
  obtain ⟨_, _, cs2, h2⟩ := h.r.own ho
  rw [h1] at h2; cases h2
theorem RS.ext (h : RS K lo bo bb br n R W rows mm nb bl nr rl) (hx : HExt K K') : RS K' lo bo bb br n R W rows mm nb bl nr rl :=
  have hn := h.nx
  ⟨h.o.mv hx.nx (hx.ob _ (by have := h.o.lb; omega)) (fun x hx' => hx.ob _ (h.o.los x hx').2), h.b.mv hx.nx (hx.ob _ (by have := h.b.lb; omega)) (fun x hx' => hx.ob _ (h.b.own hx').2.1), h.r.mv hx.nx (hx.ob _ (by have := h.r.lb; omega)) (fun x hx' => hx.ob _ (h.r.own hx').2.1), h.ne, Nat.le_trans h.nx hx.nx,
    fun t ht e he => ⟨(h.q t ht e he).1.good (CInt.good _) hx, fun l o hq => by obtain ⟨a, b, c⟩ := (h.q t ht e he).2 l o hq; exact ⟨a, Nat.lt_of_lt_of_le b hx.nx, c⟩⟩⟩
/-- A row more. -/
theorem RS.push (h : RS K lo bo bb br n R W rows mm nb bl nr rl) (hlt : rows.length < n) {ws : List Nat} (hwl : ws.length = W) (hw : W64 ws) :
    RS ((K.new (.cells (wordC ws) 40 .ex)).set bo (.cells (outC W n (rows ++ [K.nx])) 36 .ex)) lo bo bb br n R W (rows ++ [K.nx]) (mm ++ [ws]) nb bl nr rl := by
  have hn := h.nx
  have l1 := h.o.lb
  have l2 := h.b.lb
  have l3 := h.r.lb
  have hne := h.ne
  have hk : ∀ x, x < K.nx → x ≠ bo → ((K.new (.cells (wordC ws) 40 .ex)).set bo (.cells (outC W n (rows ++ [K.nx])) 36 .ex)).ob x = K.ob x := fun x h1 h2 => by
    rw [set_get, if_neg h2, new_get, if_neg (by omega)]
  refine ⟨h.o.push hlt (Nat.le_refl _) hn (by simp only [set_nx, new_nx]; omega) hwl hw (by rw [set_get, if_pos rfl]) (by rw [set_get, if_neg (by omega), new_get, if_pos rfl]) (fun x hx => hk x (h.o.los x hx).2 (by have := h.o.los x hx; omega)),
    h.b.mv (by simp only [set_nx, new_nx]; omega) (hk _ (by omega) (by omega)) (fun x hx => hk x (h.b.own hx).2.1 (by have := (h.b.own hx).1; omega)), h.r.mv (by simp only [set_nx, new_nx]; omega) (hk _ (by omega) (by omega)) (fun x hx => hk x (h.r.own hx).2.1 (by have := (h.r.own hx).1; omega)), h.ne, by simp only [set_nx, new_nx]; omega, fun t ht e he => ?_⟩
  obtain ⟨h1, h2⟩ := h.q t ht e he
  refine ⟨h1.mv (by simp only [set_nx, new_nx]; omega) fun l o hq => ?_, fun l o hq => ?_⟩
  · obtain ⟨a, b, _⟩ := h2 l o hq
    exact hk l b (by omega)
  · obtain ⟨a, b, c, d⟩ := h2 l o hq
    refine ⟨a, by simp only [set_nx, new_nx]; omega, ?_, d⟩
    simp only [List.mem_append, List.mem_singleton, not_or]
    exact ⟨c, by omega⟩
/-- A back more. -/
theorem RS.pushB (h : RS K lo bo bb br n R W rows mm nb bl nr rl) {t : Nat} (ht : t < n) {e : WayE} {vs : List Value} (hK : K'.nx = K.nx + 1) (hot : ∀ y, y < K.nx → ((bl.getD t []).length ≠ 0 → y ≠ nb.getD t 0) → K'.ob y = K.ob y)
    (hG : GL (K'.set bb (.cells vs 74 .ex)) lo bb n 76 74 bakC (nb.set t K.nx) (bl.set t (bl.getD t [] ++ [e])))
    (he : SlAt 1 (CInt .i64) K e.q e.c e.ws) (hq : ∀ l o, e.q = some ⟨l, o, none⟩ → lo ≤ l ∧ l < K.nx ∧ l ∉ rows ∧ ¬ Own nb bl n l ∧ ¬ Own nr rl R l) : RS (K'.set bb (.cells vs 74 .ex)) lo bo bb br n R W rows mm (nb.set t K.nx) (bl.set t (bl.getD t [] ++ [e])) nr rl := by
  have hn := h.nx
  have l1 := h.o.lb
  have l2 := h.b.lb
  have l3 := h.r.lb
  have hne := h.ne
  have hk : ∀ x, x < K.nx → x ≠ bb → ¬ Own nb bl n x → (K'.set bb (.cells vs 74 .ex)).ob x = K.ob x := fun x h1 h2 h3 => by
    rw [set_get, if_neg h2]; exact hot x h1 fun h4 e => h3 ⟨t, ht, h4, e⟩
  have hlow : ∀ x, x < lo → ¬ Own nb bl n x := fun x hx ho => by have := (h.b.own ho).1; omega
  refine ⟨h.o.mv (by simp only [set_nx]; omega) (hk _ (by omega) (by omega) (hlow _ l1)) (fun x hx => hk x (h.o.los x hx).2 (by have := h.o.los x hx; omega) (h.d1 hx).1), hG,
    h.r.mv (by simp only [set_nx]; omega) (hk _ (by omega) (by omega) (hlow _ l3)) (fun x hx => hk x (h.r.own hx).2.1 (by have := (h.r.own hx).1; omega) (fun ho => h.d2 ho hx)), h.ne, by simp only [set_nx]; omega, fun s hs x hx => ?_⟩
  have hxx : SlAt 1 (CInt .i64) K x.q x.c x.ws ∧ ∀ l o, x.q = some ⟨l, o, none⟩ → lo ≤ l ∧ l < K.nx ∧ l ∉ rows ∧ ¬ Own nb bl n l ∧ ¬ Own nr rl R l := by
    rw [getD_setL (by rw [h.b.ll]; exact ht)] at hx
    by_cases es : s = t
    · rw [if_pos es] at hx
      rcases List.mem_append.1 hx with hx | hx
      · exact h.q t ht x hx
      · simp at hx; subst hx; exact ⟨he, hq⟩
    · rw [if_neg es] at hx; exact h.q s hs x hx
  refine ⟨hxx.1.mv (by simp only [set_nx]; omega) fun l o hq => ?_, fun l o hq => ?_⟩
  · obtain ⟨a, b, c, d, _⟩ := hxx.2 l o hq
    exact hk l b (by omega) d
  · obtain ⟨a, b, c, d, e'⟩ := hxx.2 l o hq
    refine ⟨a, by simp only [set_nx]; omega, c, fun ho => ?_, e'⟩
    rcases own_set h.b.ll h.b.nl ht ho with h5 | h5
    · omega
    · exact d h5
/-- A reader more. -/
theorem RS.pushR (h : RS K lo bo bb br n R W rows mm nb bl nr rl) {t : Nat} (ht : t < R) {x : Nat} {vs : List Value} (hK : K'.nx = K.nx + 1) (hot : ∀ y, y < K.nx → ((rl.getD t []).length ≠ 0 → y ≠ nr.getD t 0) → K'.ob y = K.ob y)
    (hG : GL (K'.set br (.cells vs 39 .ex)) lo br R 3 39 natC (nr.set t K.nx) (rl.set t (rl.getD t [] ++ [x]))) : RS (K'.set br (.cells vs 39 .ex)) lo bo bb br n R W rows mm nb bl (nr.set t K.nx) (rl.set t (rl.getD t [] ++ [x])) := by
  have hn := h.nx
  have l1 := h.o.lb
  have l2 := h.b.lb
  have l3 := h.r.lb
  have hne := h.ne
  have hk : ∀ x, x < K.nx → x ≠ br → ¬ Own nr rl R x → (K'.set br (.cells vs 39 .ex)).ob x = K.ob x := fun x h1 h2 h3 => by
    rw [set_get, if_neg h2]; exact hot x h1 fun h4 e => h3 ⟨t, ht, h4, e⟩
  have hlow : ∀ x, x < lo → ¬ Own nr rl R x := fun x hx ho => by have := (h.r.own ho).1; omega
  refine ⟨h.o.mv (by simp only [set_nx]; omega) (hk _ (by omega) (by omega) (hlow _ l1)) (fun x hx => hk x (h.o.los x hx).2 (by have := h.o.los x hx; omega) (h.d1 hx).2),
    h.b.mv (by simp only [set_nx]; omega) (hk _ (by omega) (by omega) (hlow _ l2)) (fun x hx => hk x (h.b.own hx).2.1 (by have := (h.b.own hx).1; omega) (fun ho => h.d2 hx ho)), hG, h.ne, by simp only [set_nx]; omega, fun s hs x hx => ?_⟩
  obtain ⟨h1, h2⟩ := h.q s hs x hx
  refine ⟨h1.mv (by simp only [set_nx]; omega) fun l o hq => ?_, fun l o hq => ?_⟩
  · obtain ⟨a, b, c, _, d⟩ := h2 l o hq
    exact hk l b (by omega) d
  · obtain ⟨a, b, c, d, e'⟩ := h2 l o hq
    refine ⟨a, by simp only [set_nx]; omega, c, d, fun ho => ?_⟩
    rcases own_set h.r.ll h.r.nl ht ho with h5 | h5
    · omega
    · exact e' h5
/-- A row of words written. -/
theorem RS.put (h : RS K lo bo bb br n R W rows mm nb bl nr rl) {i : Nat} (hi : i < rows.length) {ws : List Nat} (hl : ws.length = W) (hw : W64 ws) : RS (K.set (rows.getD i 0) (.cells (wordC ws) 40 .ex)) lo bo bb br n R W rows (mm.set i ws) nb bl nr rl := by
  have hm := getD_mem hi
  have hd := h.d1 hm
  have hlo := h.o.los _ hm
  have l2 := h.b.lb
  have l3 := h.r.lb
  have hk : ∀ x, x ≠ rows.getD i 0 → (K.set (rows.getD i 0) (.cells (wordC ws) 40 .ex)).ob x = K.ob x := fun x h1 => by rw [set_get, if_neg h1]
  refine ⟨h.o.put hi hl hw, h.b.mv (Nat.le_refl _) (hk _ (by omega)) (fun x hx => hk x fun e => hd.1 (e ▸ hx)), h.r.mv (Nat.le_refl _) (hk _ (by omega)) (fun x hx => hk x fun e => hd.2 (e ▸ hx)), h.ne, h.nx, fun t ht e he => ?_⟩
  obtain ⟨h1, h2⟩ := h.q t ht e he
  refine ⟨h1.mv (Nat.le_refl _) fun l o hq => hk l fun e' => ?_, h2⟩
  obtain ⟨_, _, c, _⟩ := h2 l o hq
  exact c (e' ▸ hm)
end
end Can
end Go.Proofs.Ytapcoeecjlkdgaa
