/- Canonical runs: where they begin, with what is known of sizes. Over any program. -/
import Derived.Test.YtmpojphjongdcaaCanX
import Derived.SizedLaws
import Derived.Deep.CondSized
namespace Go.Proofs.Ytmpojphjongdcaa
namespace Can
open Go Go.RowKit
set_option linter.unusedSimpArgs false
set_option linter.unusedVariables false
variable {P : Program} {B : Nat}
section
variable {H : Type} {enc : TypeId × Value → H} {w : World} {base : Nat} {spare : Nat → Bool} {held : Bool} {Bk : DataW H → Nat}
/-- What is asked of a measure of data. -/
structure BulkOk (Bk : DataW H → Nat) : Prop where
  one : ∀ d, 1 ≤ Bk d
  slice : ∀ elems spare, (elems.map Bk).sum + 1 ≤ Bk (.slice elems spare)
  agg : ∀ parts, (parts.map Bk).sum + 1 ≤ Bk (.agg parts)
  str : ∀ bs, bs.length + 1 ≤ Bk (.lit (.string bs))
/-- COpens, with a property that holds where all that is reached is within the form's reach, and a measure. -/
def CO {α : Type} (Bk : DataW H → Nat) (enc : TypeId × Value → H) (P : Program) (w : World) (base : Nat) (spare : Nat → Bool) (held : Bool) (t : TypeId) (sz : Nat) (R : CRep α) (Z : α → Prop) (μ : α → Nat) : Prop :=
  ∀ fuel cs x, DataW.trod enc P w base spare held fuel t cs = some x → cs.length = sz ∧ (∀ v ∈ cs, VR (beta0 w) (cz v) v) ∧ ∃ y, R (heap0 w) (cs.map cz) y ∧ ((x.1.weights P t).all (· ≤ reachBytes) = true → Z y) ∧ μ y ≤ Bk x.1
theorem CO.map {α α' : Type} {R : CRep α} {Z : α → Prop} {μ : α → Nat} {t : TypeId} {sz : Nat} (h : CO Bk enc P w base spare held t sz R Z μ) {R' : CRep α'} {Z' : α' → Prop} {μ' : α' → Nat} (g : α → α') (h1 : ∀ H cs x, R H cs x → R' H cs (g x)) (h2 : ∀ x, Z x → Z' (g x)) (h3 : ∀ x, μ' (g x) ≤ μ x) :
    CO Bk enc P w base spare held t sz R' Z' μ' := fun fuel cs x hx => by
  obtain ⟨a, b, y, c, d, e⟩ := h fuel cs x hx
  exact ⟨a, b, g y, h1 _ _ _ c, fun z => h2 _ (d z), Nat.le_trans (h3 _) e⟩
theorem co_int (hB : BulkOk Bk) {t : TypeId} {k : IntKind} (ht : P.underlying t = some (.int k)) : CO Bk enc P w base spare held t 1 (CInt k) (fun _ => True) (fun _ => 1) := by
  intro fuel cs x h
  obtain ⟨n, rfl, _, h3⟩ := DataW.trod_int ht h
  exact ⟨rfl, fun v hv => by simp at hv; subst hv; exact .int _ _, n, ⟨rfl, h3⟩, fun _ => trivial, hB.one _⟩
theorem co_bool (hB : BulkOk Bk) {t : TypeId} (ht : P.underlying t = some .bool) : CO Bk enc P w base spare held t 1 CBool (fun _ => True) (fun _ => 1) := by
  intro fuel cs x h
  obtain ⟨n, rfl, _⟩ := DataW.trod_bool ht h
  exact ⟨rfl, fun v hv => by simp at hv; subst hv; exact .bool _, n, rfl, fun _ => trivial, hB.one _⟩
theorem sum_le {xs ys : List Nat} (hl : xs.length = ys.length) (h : ∀ i (h1 : i < xs.length) (h2 : i < ys.length), xs[i] ≤ ys[i]) : xs.sum ≤ ys.sum := by
  induction xs generalizing ys with
  | nil => simp
  | cons x xs ih =>
    cases ys with
    | nil => simp at hl
    | cons y ys =>
      have h0 := h 0 (by simp) (by simp)
      have := ih (ys := ys) (by simpa using hl) (fun i h1 h2 => h (i + 1) (by simpa using h1) (by simpa using h2))
      simp at h0 ⊢
      omega
theorem weightsAll_mem {e : TypeId} {d : DataW H} : ∀ {l : List (DataW H)}, (DataW.weightsAll P e l).all (· ≤ reachBytes) = true → d ∈ l → (d.weights P e).all (· ≤ reachBytes) = true
  | [], _, h => by cases h
  | x :: l, h, hd => by
    simp only [DataW.weightsAll, List.all_append, Bool.and_eq_true] at h
    rcases List.mem_cons.1 hd with rfl | hd
    · exact h.1
    · exact weightsAll_mem h.2 hd
theorem co_string (hB : BulkOk Bk) {t : TypeId} (ht : P.underlying t = some .string) : CO Bk enc P w base spare held t 1 CString (fun s => s.size ≤ reachBytes) (fun s => 1) := by
  intro fuel cs x h
  obtain ⟨n, rfl, hx, h3⟩ := DataW.trod_string ht h
  refine ⟨rfl, fun v hv => by simp at hv; subst hv; exact .string _, n, ⟨rfl, h3⟩, fun hw => ?_, hB.one _⟩
  rw [hx] at hw
  simpa [DataW.weights] using hw
theorem co_slice (hB : BulkOk Bk) {α : Type} {R : CRep α} {Z : α → Prop} {μ : α → Nat} {t e : TypeId} {sz : Nat} (ht : P.underlying t = some (.slice e)) (hc : P.cellsOf e = sz) (hp : 0 < sz) (he : CO Bk enc P w base spare held e sz R Z μ) :
    CO Bk enc P w base spare held t 1 (CSl sz R) (fun xs => xs.length * P.bytesOf e ≤ reachBytes ∧ ∀ x ∈ xs, Z x) (fun xs => (xs.map μ).sum + 1) := by
  intro fuel cs x h
  rcases Deep.open_slice ht h with ⟨rfl, rfl⟩ | ⟨a, len, cap, m, n, D, Pl, rfl, hb, hl, hm, hmm, hxe, hx⟩
  · exact ⟨rfl, fun v hv => by simp at hv; subst hv; exact .snil, [], ⟨none, 0, rfl, .inl ⟨rfl, rfl, .inl rfl⟩⟩, fun _ => ⟨by simp, fun x hx => by cases hx⟩, by simpa using hB.one _⟩
  · refine ⟨rfl, ?_⟩
    cases len with
    | zero =>
      cases cap with
      | zero => exact ⟨fun v hv => by simp at hv; subst hv; exact .svoid a, [], ⟨some ⟨0, 0, some 0⟩, 0, rfl, .inl ⟨rfl, rfl, .inr (.inl rfl)⟩⟩, fun _ => ⟨by simp, fun x hx => by cases hx⟩, by simpa using hB.one _⟩
      | succ c => exact ⟨fun v hv => by simp at hv; subst hv; exact .sweird a (c + 1), [], ⟨some ⟨0, 0, some 1⟩, 0, rfl, .inl ⟨rfl, rfl, .inr (.inr rfl)⟩⟩, fun _ => ⟨by simp, fun x hx => by cases hx⟩, by simpa using hB.one _⟩
    | succ len =>
      have hlm : len + 1 ≤ m := by rw [hmm]; split <;> omega
      have each : ∀ i, i < len + 1 → ∃ y : α, ∃ es : List Value, es.length = sz ∧ (∀ v ∈ es, VR (beta0 w) (cz v) v) ∧ (R (heap0 w) (es.map cz) y ∧ ((((D i).weights P e).all (· ≤ reachBytes) = true → Z y) ∧ μ y ≤ Bk (D i))) ∧ ∀ j (hj : j < es.length), w.cell? ((a.add (i * sz)).add j) = some es[j] := by
        intro i hi
        obtain ⟨cs', h1, h2⟩ := hx i (by omega)
        obtain ⟨hl', hv, y, hy, hz, hm⟩ := he _ _ _ h2
        rw [hc] at h1
        obtain ⟨_, _, hcell⟩ := World.cells?_some h1
        exact ⟨y, cs', hl', hv, ⟨hy, hz, hm⟩, fun j hj => by rw [hcell j (by omega), List.getElem?_eq_getElem hj]⟩
      have hsp : a.spot = none := by
        obtain ⟨_, es, h1, _, _, h3⟩ := each 0 (by omega)
        have := h3 0 (by omega)
        simp only [Nat.zero_mul, Addr.add, if_true] at this
        unfold World.cell? at this
        cases hs : a.spot with
        | none => rfl
        | some k =>
          split at this
          · simp [hs] at this
          · cases this
      obtain ⟨ab, ao, asp⟩ := a
      simp only at hsp
      subst hsp
      have hadd : ∀ k j, (((⟨ab, ao, none⟩ : Addr).add k).add j) = ⟨ab, ao + k + j, none⟩ := by
        intro k j
        unfold Addr.add
        (repeat' split) <;> simp_all
      obtain ⟨ys, hy1, hy2⟩ := list_of each
      have hfst : ∃ v, w.cell? ⟨ab, ao, none⟩ = some v := by
        obtain ⟨_, es, h1, _, _, h3⟩ := each 0 (by omega)
        have := h3 0 (by omega)
        rw [hadd] at this
        simp only [Nat.zero_mul, Nat.add_zero] at this
        exact ⟨_, this⟩
      obtain ⟨v0, hv0⟩ := hfst
      obtain ⟨nn, os, hbeta, hob, hcells⟩ := beta0_cell hv0
      have hlen : ∀ i, i < len + 1 → ao + (i + 1) * sz ≤ os.length := by
        intro i hi
        obtain ⟨_, es, h1, _, _, h3⟩ := each i hi
        have := h3 (sz - 1) (by omega)
        rw [hadd, hcells] at this
        have := (List.getElem?_eq_some_iff.1 this).1
        rw [Nat.add_mul, Nat.one_mul]
        omega
      have htake : ∀ i, i < len + 1 → ∀ es : List Value, es.length = sz → (∀ v ∈ es, VR (beta0 w) (cz v) v) → (∀ j (hj : j < es.length), w.cell? (((⟨ab, ao, none⟩ : Addr).add (i * sz)).add j) = some es[j]) →
          ((os.map (mask (beta0 w))).drop (ao + i * sz)).take sz = es.map cz := by
        intro i hi es h1 hv h3
        apply List.ext_getElem?
        intro j
        by_cases hj : j < sz
        · rw [List.getElem?_take_of_lt hj, List.getElem?_drop, List.getElem?_map, List.getElem?_map, ← hcells]
          have := h3 j (by omega)
          rw [hadd] at this
          rw [this, List.getElem?_eq_getElem (by omega)]
          simp only [Option.map_some]
          rw [mask_of (hv _ (List.getElem_mem _))]
        · rw [List.getElem?_eq_none (by simp; omega), List.getElem?_eq_none (by simp; omega)]
      refine ⟨fun v hv => ?_, ys, ⟨some ⟨ab, ao, none⟩, cap, ?_, (.inr ⟨ab, ao, _, 0, .ro, rfl, World.block_lt_of_cell? _ _ hv0, by omega, hm, hob, ?_, fun i hi => ?_⟩)⟩, fun hz => ?_, ?_⟩
      · simp at hv; subst hv; exact .sl hbeta hl (Nat.le_refl _) hm (fun h => absurd rfl h) (fun _ => rfl)
      · rw [hy1]; rfl
      · rw [hy1]; simpa using hlen len (by omega)
      · obtain ⟨es, h1, h2, h3, h4⟩ := hy2 i hi
        rw [htake i (by omega) es h1 h2 h4]
        exact h3.1
      · rw [hxe] at hz
        simp only [DataW.weights, ht, List.all_cons, List.all_append, Bool.and_eq_true, decide_eq_true_eq, List.length_map, List.length_range] at hz
        refine ⟨Nat.le_trans (Nat.mul_le_mul_right _ (by omega)) hz.1, fun x hx' => ?_⟩
        obtain ⟨i, hi, rfl⟩ := List.getElem_of_mem hx'
        obtain ⟨es, h1, h2, h3, h4⟩ := hy2 i hi
        refine h3.2.1 ?_
        have hmem : D i ∈ (List.range (len + 1)).map D := List.mem_map.2 ⟨i, List.mem_range.2 (by omega), rfl⟩
        exact weightsAll_mem hz.2.1 hmem
      · rw [hxe]
        refine Nat.le_trans ?_ (hB.slice _ _)
        refine Nat.succ_le_succ ?_
        refine sum_le (by simp [hy1]) fun i hi hj => ?_
        simp only [List.getElem_map, List.getElem_range]
        obtain ⟨es, h1, h2, h3, h4⟩ := hy2 i (by simpa using hi)
        exact h3.2.2
/-- The rest of a struct's fields. -/
def COF {α : Type} (Bk : DataW H → Nat) (enc : TypeId × Value → H) (P : Program) (w : World) (base : Nat) (spare : Nat → Bool) (held : Bool) (fs : List Field) (o sz : Nat) (R : CRep α) (Z : α → Prop) (μ : α → Nat) : Prop :=
  ∀ n (cs : List Value) (xs : List (DataW H × List MemPlace)), xs.length = fs.length → (∀ (i : Nat) (f : Field), fs[i]? = some f → ∃ x, xs[i]? = some x ∧ DataW.trod enc P w base spare held n f.type ((cs.drop f.offset).take (P.cellsOf f.type)) = some x) → cs.length = o + sz →
    (∀ v ∈ cs.drop o, VR (beta0 w) (cz v) v) ∧ ∃ y, R (heap0 w) ((cs.drop o).map cz) y ∧ ((DataW.weightsEach P (fs.map (·.type)) (xs.map (·.1))).all (· ≤ reachBytes) = true → Z y) ∧ μ y ≤ ((xs.map (·.1)).map Bk).sum
theorem co_nil {o : Nat} : COF Bk enc P w base spare held [] o 0 CUnit (fun _ => True) (fun _ => 0) := fun n cs xs _ _ hl => by
  have : cs.drop o = [] := List.drop_eq_nil_of_le (by omega)
  rw [this]
  exact ⟨fun v hv => by simp at hv, (), rfl, fun _ => trivial, Nat.zero_le _⟩
theorem co_cons {α β : Type} {f : Field} {fs : List Field} {o n sz : Nat} {R : CRep α} {S : CRep β} {Z : α → Prop} {Y : β → Prop} {μ : α → Nat} {ν : β → Nat} (ho : f.offset = o) (hc : P.cellsOf f.type = n) (h : CO Bk enc P w base spare held f.type n R Z μ) (hr : COF Bk enc P w base spare held fs (o + n) sz S Y ν) :
    COF Bk enc P w base spare held (f :: fs) o (n + sz) (CPair n R S) (fun p => Z p.1 ∧ Y p.2) (fun p => μ p.1 + ν p.2) := fun m cs xs hxl hx hl => by
  obtain ⟨x, hx0, h0⟩ := hx 0 f rfl
  match xs, hx0 with
  | x :: xs, hx0 =>
    cases hx0
    rw [ho, hc] at h0
    obtain ⟨h1, h2, y, h3, h4, h5⟩ := h _ _ _ h0
    obtain ⟨k1, z, k2, k3, k4⟩ := hr m cs xs (by simpa using hxl) (fun i g hg => by simpa using hx (i + 1) g (by simpa using hg)) (by omega)
    have hd : cs.drop o = (cs.drop o).take n ++ cs.drop (o + n) := by rw [← List.drop_drop, List.take_append_drop]
    refine ⟨fun v hv => ?_, (y, z), ⟨?_, ?_⟩, fun hw => ?_, ?_⟩
    · rw [hd] at hv
      rcases List.mem_append.1 hv with hv | hv
      · exact h2 v hv
      · exact k1 v hv
    · rw [← List.map_take]; exact h3
    · rw [← List.map_drop, List.drop_drop]; exact k2
    · simp only [List.map_cons, DataW.weightsEach, List.all_append, Bool.and_eq_true] at hw
      exact ⟨h4 hw.1, k3 hw.2⟩
    · simp only [List.map_cons, List.sum_cons]
      omega
theorem co_struct (hB : BulkOk Bk) {α : Type} {t : TypeId} {fs : Array Field} {sz : Nat} {R : CRep α} {Z : α → Prop} {μ : α → Nat} (ht : P.underlying t = some (.struct fs)) (hc : P.cellsOf t = sz) (h : COF Bk enc P w base spare held fs.toList 0 sz R Z μ) : CO Bk enc P w base spare held t sz R Z (fun y => μ y + 1) := by
  intro fuel cs x hx
  obtain ⟨xs, n, _, hxe, hl, hxl, hf⟩ := DataW.trod_struct ht hx
  have := h n cs xs (by simpa using hxl) (fun i f hfi => by
    have hfi' : fs[i]? = some f := by simpa using hfi
    have hi : i < xs.length := by rw [hxl]; exact (Array.getElem?_eq_some_iff.1 hfi').1
    exact ⟨xs[i], by simp [hi], by rw [hf i f hfi', List.getElem?_eq_getElem hi]⟩) (by omega)
  rw [List.drop_zero] at this
  obtain ⟨a, y, b, c, d⟩ := this
  refine ⟨by omega, a, y, b, fun hw => c ?_, ?_⟩
  · rw [hxe] at hw
    simpa only [DataW.weights, ht] using hw
  · rw [hxe]
    exact Nat.le_trans (Nat.succ_le_succ d) (hB.agg _)
theorem co_array (hB : BulkOk Bk) {α : Type} {t e : TypeId} {n sz : Nat} {R : CRep α} {Z : α → Prop} {μ : α → Nat} (ht : P.underlying t = some (.array n e)) (hc : P.cellsOf e = sz) (hp : 0 < sz) (hcs : P.cellsOf t = n * sz) (h : CO Bk enc P w base spare held e sz R Z μ) :
    CO Bk enc P w base spare held t (n * sz) (CArr n sz R) (fun ys => ∀ y ∈ ys, Z y) (fun ys => 1) := by
  intro fuel cs x hx
  obtain ⟨xs, m, _, hxe, hl, hxl, hf⟩ := DataW.trod_array ht hx
  have each : ∀ i, i < n → ∃ y : α, R (heap0 w) (((cs.drop (i * sz)).take sz).map cz) y ∧ (∀ v ∈ (cs.drop (i * sz)).take sz, VR (beta0 w) (cz v) v) ∧ (∀ hi : i < xs.length, ((xs[i].1.weights P e).all (· ≤ reachBytes) = true → Z y)) := by
    intro i hi
    have := hf i hi
    rw [hc, List.getElem?_eq_getElem (by omega)] at this
    obtain ⟨_, h2, y, h3, h4, _⟩ := h _ _ _ this
    exact ⟨y, h3, h2, fun _ => h4⟩
  obtain ⟨ys, hy1, hy2⟩ := list_of each
  refine ⟨by omega, fun v hv => ?_, ys, ⟨hy1, fun i hi => ?_⟩, fun hw y hy => ?_, hB.one _⟩
  · obtain ⟨j, hj, rfl⟩ := List.getElem_of_mem hv
    have hjn : j / sz < n := by rw [Nat.div_lt_iff_lt_mul hp]; omega
    obtain ⟨_, _, h2, _⟩ := each (j / sz) hjn
    apply h2
    have hmod := Nat.mod_lt j hp
    have hdm := Nat.div_add_mod j sz
    rw [List.mem_iff_getElem?]
    refine ⟨j % sz, ?_⟩
    rw [List.getElem?_take_of_lt hmod, List.getElem?_drop, show j / sz * sz + j % sz = j by rw [Nat.mul_comm]; exact hdm, List.getElem?_eq_getElem hj]
  · rw [← List.map_drop, ← List.map_take]
    exact (hy2 i hi).1
  · obtain ⟨i, hi, rfl⟩ := List.getElem_of_mem hy
    rw [hxe] at hw
    simp only [DataW.weights, ht] at hw
    refine (hy2 i hi).2.2 (by omega) (weightsAll_mem hw ?_)
    exact List.mem_map.2 ⟨xs[i]'(by omega), List.getElem_mem _, rfl⟩
theorem co_trod {α : Type} {t : TypeId} {sz : Nat} {R : CRep α} {Z : α → Prop} {μ : α → Nat} (he : CO Bk enc P w base spare held t sz R Z μ) {v : Value} {d : DataW H} {p : List MemPlace} (h : DataW.Trod enc P w base spare held t v d p) :
    VR (beta0 w) (czv v) v ∧ (czv v).cells.toList.length = sz ∧ ∃ y, R (heap0 w) (czv v).cells.toList y ∧ ((d.weights P t).all (· ≤ reachBytes) = true → Z y) ∧ μ y ≤ Bk d := by
  obtain ⟨fuel, hf⟩ := h
  obtain ⟨h1, h2, h3⟩ := he fuel _ _ hf
  rw [cells_czv]
  refine ⟨?_, by simpa using h1, h3⟩
  by_cases hv : ∃ cs, v = .agg cs
  · obtain ⟨cs, rfl⟩ := hv
    refine .agg (by simp) fun i i1 i2 => ?_
    simp only [List.getElem_toArray, List.getElem_map, Array.getElem_toList]
    exact h2 _ (by simp [Value.cells])
  · have hc : v.cells = #[v] := by cases v <;> first | rfl | exact absurd ⟨_, rfl⟩ hv
    have hz : czv v = cz v := by cases v <;> first | rfl | exact absurd ⟨_, rfl⟩ hv
    rw [hz]
    exact h2 v (by rw [hc]; simp)
theorem sized_arg {ts : List TypeId} {ds : List (DataW H)} (h : (DataW.weightsEach P ts ds).all (· ≤ reachBytes) = true) {j : Nat} {t : TypeId} {d : DataW H} (ht : ts[j]? = some t) (hd : ds[j]? = some d) : (d.weights P t).all (· ≤ reachBytes) = true :=
  List.all_eq_true.2 fun n hn => List.all_eq_true.1 h n (DataW.weights_mem_each ht hd n hn)
end
end Can
end Go.Proofs.Ytmpojphjongdcaa
