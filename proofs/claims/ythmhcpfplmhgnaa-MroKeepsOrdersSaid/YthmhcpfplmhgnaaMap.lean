/- A map whose keys are ints: what a look-up finds, what a store leaves. Over any program, whatever the elements are. -/
import Derived.Test.YthmhcpfplmhgnaaMem
import Derived.MapKept
import Derived.WalkSpells
import Derived.Maps.OwnOps
namespace Go.Proofs.Ythmhcpfplmhgnaa
open Go.ChangeShapes Go.WideShapes Go.ChangeAt Go.RowKit
set_option linter.unusedSimpArgs false
set_option linter.unusedVariables false
set_option linter.unusedSectionVars false

def keyIs (k : Int) (e : MapEntry) : Bool := match e.key with
  | .int .i64 n => k == n
  | _ => false
/-- What the entries have under a key. -/
def mget : List MapEntry → Int → Option Value
  | [], _ => none
  | e :: es, k => if keyIs k e then some e.val else mget es k
def IntKeys (es : List MapEntry) : Prop := ∀ e ∈ es, ∃ n, e.key = .int .i64 n
theorem findNow_none (k : Int) : ∀ (es : List MapEntry) (i : Nat), IntKeys es → mget es k = none → Instr.findNow (.int .i64) (.int .i64 k) es i = some none
  | [], i, _, _ => rfl
  | e :: es, i, h, hm => by
    obtain ⟨n, hn⟩ := h e (by simp)
    have hk : keyIs k e = (k == n) := by simp [keyIs, hn]
    unfold mget at hm
    rw [hk] at hm
    cases hb : (k == n)
    · rw [hb] at hm
      simp only [Instr.findNow, hn, Instr.sameNow, if_true, hb]
      exact findNow_none k es (i + 1) (fun x hx => h x (List.mem_cons_of_mem _ hx)) (by simpa using hm)
    · rw [hb] at hm; simp at hm
theorem findNow_some (k : Int) (v : Value) : ∀ (es : List MapEntry) (i : Nat), IntKeys es → mget es k = some v →
    ∃ j, j < es.length ∧ Instr.findNow (.int .i64) (.int .i64 k) es i = some (some (i + j, v)) ∧ (∃ e, es[j]? = some e ∧ e.key = .int .i64 k) ∧
      ∀ (u : Value) (k' : Int), mget (es.modify j fun e => { e with key := .int .i64 k, val := u }) k' = if k' = k then some u else mget es k'
  | [], i, _, hm => by simp [mget] at hm
  | e :: es, i, h, hm => by
    obtain ⟨n, hn⟩ := h e (by simp)
    have hk : ∀ k, keyIs k e = (k == n) := fun k => by simp [keyIs, hn]
    unfold mget at hm
    rw [hk] at hm
    cases hb : (k == n)
    · rw [hb] at hm
      obtain ⟨j, hj, hf, he, hu⟩ := findNow_some k v es (i + 1) (fun x hx => h x (List.mem_cons_of_mem _ hx)) (by simpa using hm)
      refine ⟨j + 1, by simp; omega, ?_, ⟨_, by simpa using he.choose_spec.1, he.choose_spec.2⟩, fun u k' => ?_⟩
      · simp only [Instr.findNow, hn, Instr.sameNow, if_true, hb]
        rw [hf]; congr 3; omega
      · have hkn : k ≠ n := by simpa using hb
        simp only [List.modify_succ_cons, mget, hk, hu]
        by_cases e1 : k' = n
        · subst e1; simp [Ne.symm hkn]
        · simp [e1]
    · rw [hb] at hm
      have hkn : k = n := by simpa using hb
      subst hkn
      refine ⟨0, by simp, ?_, ⟨e, by simp, hn⟩, fun u k' => ?_⟩
      · simp only [Instr.findNow, hn, Instr.sameNow, if_true]
        simp at hm
        simp [hm]
      · simp only [List.modify_zero_cons, mget, hk]
        by_cases e1 : k' = k
        · subst e1; simp [keyIs]
        · simp [keyIs, e1]
theorem mget_push (k : Int) (e : MapEntry) (hk : e.key = .int .i64 k) : ∀ (es : List MapEntry) (k' : Int), mget es k = none → mget (es ++ [e]) k' = if k' = k then some e.val else mget es k'
  | [], k', _ => by by_cases h : k' = k <;> simp [mget, keyIs, hk, h]
  | x :: es, k', hm => by
    unfold mget at hm
    by_cases hx : keyIs k x = true
    · rw [if_pos hx] at hm; cases hm
    · rw [if_neg hx] at hm
      have ih := mget_push k e hk es k' hm
      simp only [List.cons_append, mget, ih]
      by_cases h : k' = k
      · subst h; simp [hx]
      · simp [h]

/-- Block r is a map of ints; under key k it has m k. -/
def MapIs (w : World) (r : Nat) (m : Int → Option Value) : Prop :=
  ∃ es clock, w.heap[r]? = some (.map es clock) ∧ IntKeys es.toList ∧ ∀ k, mget es.toList k = m k
theorem MapIs.new (w : World) : MapIs (w.alloc (.map #[] 0)) w.heap.size (fun _ => none) := by
  refine ⟨#[], 0, (MapKept.heap_alloc w _).1, fun e he => by simp at he, fun k => rfl⟩
theorem MapIs.lt {w : World} {r : Nat} {m : Int → Option Value} (h : MapIs w r m) : r < w.heap.size := by
  obtain ⟨es, clock, hb, _⟩ := h
  rcases Nat.lt_or_ge r w.heap.size with h | h
  · exact h
  · rw [Array.getElem?_eq_none h] at hb; cases hb
theorem MapIs.kept {w w' : World} {r : Nat} {m : Int → Option Value} (h : MapIs w r m) (e : w'.heap[r]? = w.heap[r]?) : MapIs w' r m := by
  obtain ⟨es, clock, hb, hr⟩ := h
  exact ⟨es, clock, e.trans hb, hr⟩
section
variable {P : Program} {T K E : Nat} (hT : P.underlying T = some (.map K E)) (hK : P.underlying K = some (.int .i64))
include hT hK
theorem run_checkKey_int (w : World) (b : Bool) (k : Int) : (Instr.checkKey b 10000 K (.int .i64 k)).run P w = .ok () w := by
  rw [show (10000 : Nat) = 9999 + 1 from rfl, Instr.checkKey]
  simp [run_underlying hK]
theorem MapIs.lookup {w : World} {r : Nat} {m : Int → Option Value} (h : MapIs w r m) {z : Value} (hz : (zeroValue E).run P w = .ok z w) (k : Int) :
    (Instr.lookup T (.map (some r)) (.int .i64 k) false).run P w = .ok ((m k).getD z) w := by
  obtain ⟨es, clock, hb, hi, hm⟩ := h
  have hmk := hm k
  unfold Instr.lookup
  simp only [Sem.run_bind, run_underlying hT, Result.andThen_ok, run_getObj_map _ r es clock hb, Sem.run_pure, run_checkKey_int hT hK]
  cases hg : mget es.toList k with
  | none =>
    have hf := findNow_none k es.toList 0 hi hg
    simp [Instr.findKey, run_underlying hK, hf, hz, ← hmk, hg]
  | some v =>
    obtain ⟨j, _, hf, _⟩ := findNow_some k v es.toList 0 hi hg
    simp [Instr.findKey, run_underlying hK, hf, ← hmk, hg]
theorem MapIs.update {w : World} {r : Nat} {m : Int → Option Value} (h : MapIs w r m) (k : Int) (u : Value) :
    ∃ w', (Instr.mapUpdate T (.map (some r)) (.int .i64 k) u).run P w = .ok () w' ∧ MapIs w' r (fun j => if j = k then some u else m j) ∧ Grow (some r) w w' ∧ w'.heap.size = w.heap.size := by
  have hlt := h.lt
  obtain ⟨es, clock, hb, hi, hm⟩ := h
  have grow : ∀ o, Grow (some r) w { w with heap := w.heap.setIfInBounds r o } := fun o => ⟨rfl, rfl, rfl, by simp, fun j _ hj => by
    simp only
    rw [Array.getElem?_setIfInBounds_ne (by intro e; exact hj (by rw [e]))]⟩
  unfold Instr.mapUpdate
  simp only [Sem.run_bind, run_underlying hT, Result.andThen_ok, run_getObj_map _ r es clock hb, Sem.run_pure, run_checkKey_int hT hK]
  cases hg : mget es.toList k with
  | none =>
    have hf := findNow_none k es.toList 0 hi hg
    refine ⟨{ w with heap := w.heap.setIfInBounds r (.map (es.push { key := .int .i64 k, val := u, born := clock }) (clock + 1)) }, by simp [Instr.findKey, run_underlying hK, hf, MapKept.run_setObj_map _ hb], ?_, grow _, by simp⟩
    refine ⟨es.push { key := .int .i64 k, val := u, born := clock }, clock + 1, by simp [hlt], fun e he => ?_, fun k' => ?_⟩
    · simp only [Array.toList_push, List.mem_append, List.mem_singleton] at he
      rcases he with he | rfl
      · exact hi e he
      · exact ⟨k, rfl⟩
    · rw [Array.toList_push, mget_push k _ rfl _ _ hg, hm]
  | some v =>
    obtain ⟨j, hj, hf, ⟨e, he, hek⟩, hu⟩ := findNow_some k v es.toList 0 hi hg
    have hea : es[j]? = some e := by simpa using he
    refine ⟨{ w with heap := w.heap.setIfInBounds r (.map (es.modify j fun e => { e with key := .int .i64 k, val := u }) clock) }, by simp [Instr.findKey, run_underlying hK, hf, hea, hek, Instr.keyThatStays, Instr.sameBits, MapKept.run_setObj_map _ hb], ?_, grow _, by simp⟩
    refine ⟨es.modify j fun e => { e with key := .int .i64 k, val := u }, clock, by simp [hlt], fun x hx => ?_, fun k' => ?_⟩
    · rw [Array.toList_modify] at hx
      obtain ⟨t, ht, e'⟩ := List.getElem_of_mem hx
      rw [List.getElem_modify] at e'
      split at e'
      · exact ⟨k, by rw [← e']⟩
      · exact hi x (by rw [← e']; exact List.getElem_mem _)
    · rw [Array.toList_modify, hu, hm]
end
section
variable {P : Program} {w : World} {ops : Array Oper} {rest : List Oper} {o : Oper} {a : Act} {Q : Exit → Act → World → Prop}
/-- 'm[k] = u' as a step of the walk. -/
theorem wpl_mapStore (hgd : o.guard = none) (mo ko vo : Operand) (T : TypeId) (ho : o.op = .mapUpdate T mo ko vo) {K E : Nat} (hT : P.underlying T = some (.map K E)) (hK : P.underlying K = some (.int .i64))
    {r : Nat} {m : Int → Option Value} (h : MapIs w r m) (hm : a.eval mo = .map (some r)) {k : Int} (hk : a.eval ko = .int .i64 k) {u : Value} (hu : a.eval vo = u)
    (hn : ∀ w', MapIs w' r (fun j => if j = k then some u else m j) → Grow (some r) w w' → w'.heap.size = w.heap.size → wpList P ops Q rest (a.put o.dst undef) w') : wpList P ops Q (o :: rest) a w := by
  refine wpList_plain hgd fun K' hK' => ?_
  obtain ⟨w', hrun, r1, r2, r3⟩ := h.update hT hK k u
  unfold Oper.wp
  simp [execOp, ho, hm, hk, hu, hrun, Result.andThen]
  exact hK' _ _ (hn w' r1 r2 r3)
/-- 'm[k]' as a step of the walk. -/
theorem wpl_mapLook (hgd : o.guard = none) (mo ko : Operand) (T : TypeId) (ho : o.op = .lookup T mo ko false) {K E : Nat} (hT : P.underlying T = some (.map K E)) (hK : P.underlying K = some (.int .i64)) {z : Value} (hz : (zeroValue E).run P w = .ok z w)
    {r : Nat} {m : Int → Option Value} (h : MapIs w r m) (hm : a.eval mo = .map (some r)) {k : Int} (hk : a.eval ko = .int .i64 k)
    (hn : wpList P ops Q rest (a.put o.dst ((m k).getD z)) w) : wpList P ops Q (o :: rest) a w := by
  refine wpList_plain hgd fun K' hK' => ?_
  have hrun := h.lookup hT hK hz k
  unfold Oper.wp
  simp [execOp, ho, hm, hk, hrun, Result.andThen]
  exact hK' _ _ hn
end
end Go.Proofs.Ythmhcpfplmhgnaa
