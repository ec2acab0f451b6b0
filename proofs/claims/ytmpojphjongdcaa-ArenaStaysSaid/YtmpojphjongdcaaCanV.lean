/- Canonical runs: where they begin; what a slice reads as. Over any program. -/
import Derived.Test.YtmpojphjongdcaaCanU
import Derived.Test.YtmpojphjongdcaaCanS
import Derived.Test.YtmpojphjongdcaaOpen
import Derived.OpenShut
import Derived.ChangeArms
namespace Go.Proofs.Ytmpojphjongdcaa
namespace Can
open Go Go.RowKit
set_option linter.unusedSimpArgs false
set_option linter.unusedVariables false
variable {P : Program} {B : Nat}

/-- K holds all that H holds, and perhaps more. -/
structure HExt (H K : CH) : Prop where
  nx : H.nx ≤ K.nx
  ob : ∀ l, l < H.nx → K.ob l = H.ob l
theorem HExt.refl (H : CH) : HExt H H := ⟨Nat.le_refl _, fun _ _ => rfl⟩
theorem HExt.trans {A H K : CH} (h : HExt A H) (k : HExt H K) : HExt A K := ⟨Nat.le_trans h.nx k.nx, fun l hl => (k.ob l (Nat.lt_of_lt_of_le hl h.nx)).trans (h.ob l hl)⟩
theorem HExt.new {A H : CH} (h : HExt A H) (o : CObj) : HExt A (H.new o) := h.trans ⟨Nat.le_succ _, fun l hl => by simp [CH.new]; intro e; omega⟩
theorem HExt.set {A H : CH} (h : HExt A H) {l : Nat} (hl : A.nx ≤ l) (o : CObj) : HExt A (H.set l o) := ⟨h.nx, fun k hk => by simp only [CH.set]; rw [if_neg (by omega)]; exact h.ob k hk⟩

/-- A way of reading cells as data. -/
abbrev CRep (α : Type) := CH → List Value → α → Prop
def CInt (k : IntKind) : CRep Int := fun _ cs x => cs = [.int k x] ∧ (Lit.int k x).wf = true
def CBool : CRep Bool := fun _ cs x => cs = [.bool x]
/-- Where a slice lies, and what its cells read as. -/
def SlAt {α : Type} (sz : Nat) (R : CRep α) (H : CH) (a : Option Addr) (c : Nat) (xs : List α) : Prop :=
  (xs = [] ∧ c = 0 ∧ (a = none ∨ a = some ⟨0, 0, some 0⟩ ∨ a = some ⟨0, 0, some 1⟩)) ∨
  ∃ l o os e k, a = some ⟨l, o, none⟩ ∧ l < H.nx ∧ xs.length ≤ c ∧ c ≤ maxLen ∧ H.ob l = .cells os e k ∧ o + xs.length * sz ≤ os.length ∧
    ∀ i (h : i < xs.length), R H ((os.drop (o + i * sz)).take sz) xs[i]
/-- A slice, nil or not, whose elements take sz cells each. -/
def CSl {α : Type} (sz : Nat) (R : CRep α) : CRep (List α) := fun H cs xs => ∃ a c, cs = [.slice a xs.length c] ∧ SlAt sz R H a c xs
def CString : CRep ByteArray := fun _ cs x => cs = [.string x] ∧ x.size ≤ maxLen
def CUnit : CRep Unit := fun _ cs _ => cs = []
def CPair {α β : Type} (n : Nat) (R : CRep α) (S : CRep β) : CRep (α × β) := fun H cs x => R H (cs.take n) x.1 ∧ S H (cs.drop n) x.2
def CArr {α : Type} (n sz : Nat) (R : CRep α) : CRep (List α) := fun H cs xs => xs.length = n ∧ ∀ i (h : i < xs.length), R H ((cs.drop (i * sz)).take sz) xs[i]
/-- A reading that stays where the memory grows. -/
def CGood {α : Type} (R : CRep α) : Prop := ∀ (H K : CH) (cs : List Value) (x : α), HExt H K → R H cs x → R K cs x
theorem CInt.good (k : IntKind) : CGood (CInt k) := fun _ _ _ _ _ h => h
theorem CBool.good : CGood CBool := fun _ _ _ _ _ h => h
theorem SlAt.good {α : Type} {sz : Nat} {R : CRep α} (g : CGood R) {H K : CH} {a : Option Addr} {c : Nat} {xs : List α} (hx : HExt H K) (h : SlAt sz R H a c xs) : SlAt sz R K a c xs := by
  rcases h with h | ⟨l, o, os, e, k, h0, h1, h2, h3, h4, h5, h6⟩
  · exact .inl h
  · exact .inr ⟨l, o, os, e, k, h0, Nat.lt_of_lt_of_le h1 hx.nx, h2, h3, (hx.ob l h1).trans h4, h5, fun i hi => g _ _ _ _ hx (h6 i hi)⟩
theorem CSl.good {α : Type} {sz : Nat} {R : CRep α} (g : CGood R) : CGood (CSl sz R) := fun _ _ _ _ hx ⟨a, c, h1, h2⟩ => ⟨a, c, h1, h2.good g hx⟩
theorem CPair.good {α β : Type} {n : Nat} {R : CRep α} {S : CRep β} (g : CGood R) (g' : CGood S) : CGood (CPair n R S) := fun _ _ _ _ hx ⟨a, b⟩ => ⟨g _ _ _ _ hx a, g' _ _ _ _ hx b⟩
theorem CArr.good {α : Type} {n sz : Nat} {R : CRep α} (g : CGood R) : CGood (CArr n sz R) := fun _ _ _ _ hx ⟨a, b⟩ => ⟨a, fun i hi => g _ _ _ _ hx (b i hi)⟩
/-- A slice of integers: its cells. -/
theorem SlAt.ints {k : IntKind} {H : CH} {a : Option Addr} {c : Nat} {xs : List Int} (h : SlAt 1 (CInt k) H a c xs) (hne : 0 < xs.length) :
    ∃ l o os e kd, a = some ⟨l, o, none⟩ ∧ l < H.nx ∧ xs.length ≤ c ∧ c ≤ maxLen ∧ H.ob l = .cells os e kd ∧ o + xs.length ≤ os.length ∧ (∀ i, i < xs.length → os[o + i]? = some (.int k (xs.getD i 0))) ∧ ∀ i, i < xs.length → (Lit.int k (xs.getD i 0)).wf = true := by
  rcases h with ⟨h, _⟩ | ⟨l, o, os, e, kd, h0, h1, h2, h3, h4, h5, h6⟩
  · subst h; simp at hne
  · refine ⟨l, o, os, e, kd, h0, h1, h2, h3, h4, by omega, fun i hi => ?_, fun i hi => ?_⟩
    · have := (h6 i hi).1
      rw [Nat.mul_one] at this
      have h7 : ((os.drop (o + i)).take 1)[0]? = some (.int k xs[i]) := by rw [this]; rfl
      rw [List.getElem?_take_of_lt (by omega), List.getElem?_drop] at h7
      simpa [List.getD, List.getElem?_eq_getElem hi] using h7
    · have := (h6 i hi).2
      simpa [List.getD, List.getElem?_eq_getElem hi] using this

/-- An argument's cell as the canonical run has it. -/
def cz : Value → Value
  | .slice (some _) 0 0 => .slice (some ⟨0, 0, some 0⟩) 0 0
  | .slice (some _) 0 _ => .slice (some ⟨0, 0, some 1⟩) 0 0
  | v => v
def czv : Value → Value
  | .agg cs => .agg (cs.toList.map cz).toArray
  | v => cz v
open Classical in
/-- .. if the relation can be told. -/
noncomputable def mask (β : Nat → Ent) (v : Value) : Value := if VR β (cz v) v then cz v else undef
theorem mask_rel (β : Nat → Ent) (v : Value) : VR β (mask β v) v := by
  unfold mask; split
  · assumption
  · exact .undef _
theorem mask_of {β : Nat → Ent} {v : Value} (h : VR β (cz v) v) : mask β v = cz v := by unfold mask; rw [if_pos h]
def beta0 (w : World) : Nat → Ent := fun b => match w.heap[b]? with
  | some (.cells cs _ _) => .live b 0 cs.size .ro
  | some _ => .dead
  | none => .unborn
noncomputable def heap0 (w : World) : CH := { nx := w.heap.size, ob := fun b => match w.heap[b]? with
  | some (.cells cs _ _) => .cells (cs.toList.map (mask (beta0 w))) 0 .ro
  | some _ => .dead
  | none => .unborn }
theorem sim0 (w : World) : Sim P w.heap.size (beta0 w) (heap0 w) w := by
  have hown : ∀ l b, ¬ (beta0 w l).owns b := fun l b ho => by
    unfold beta0 at ho
    split at ho
    · exact ho.1 rfl
    · exact ho
    · exact ho
  refine ⟨fun l => ?_, fun l hl => ?_, fun l l' b h1 _ => absurd h1 (hown l b), Nat.le_refl _⟩
  · have hb : beta0 w l = match w.heap[l]? with
      | some (.cells cs _ _) => .live l 0 cs.size .ro
      | some _ => .dead
      | none => .unborn := rfl
    have ho : (heap0 w).ob l = match w.heap[l]? with
      | some (.cells cs _ _) => .cells (cs.toList.map (mask (beta0 w))) 0 .ro
      | some _ => .dead
      | none => .unborn := rfl
    rw [hb, ho]
    cases hh : w.heap[l]? with
    | none => exact trivial
    | some o =>
      cases o with
      | cells cs e fr =>
        refine ⟨rfl, cs, e, fr, hh, rfl, by simp, fun i v hv => ?_, fun h => absurd rfl h, fun h => absurd rfl h, fun _ => (Array.getElem?_eq_some_iff.1 hh).1, fun h => by cases h⟩
        rw [List.getElem?_map] at hv
        cases hc : cs.toList[i]? with
        | none => rw [hc] at hv; cases hv
        | some u => rw [hc] at hv; cases hv; exact ⟨u, by simpa using hc, mask_rel _ _⟩
      | _ => exact trivial
  · show (match w.heap[l]? with | some (.cells cs _ _) => _ | some _ => _ | none => _) = _
    have : w.heap[l]? = none := Array.getElem?_eq_none hl
    rw [this]
theorem out0 (w : World) (b : Nat) : Out (beta0 w) b := fun l ho => by
  unfold beta0 at ho
  split at ho
  · exact ho.1 rfl
  · exact ho
  · exact ho
/-- At the end: what was there when the call began is as it was. -/
theorem below0 {w w' : World} {β' : Nat → Ent} (h : Evo (beta0 w) w β' w') : Below w.heap.size w w' :=
  ⟨h.os, h.tape, h.output, h.size, fun k hk => (h.keep k hk (out0 w k)).1⟩
theorem beta0_cell {w : World} {b o : Nat} {v : Value} (h : w.cell? ⟨b, o, none⟩ = some v) : ∃ (n : Nat) (os : List Value), beta0 w b = .live b 0 n .ro ∧ (heap0 w).ob b = .cells (os.map (mask (beta0 w))) 0 .ro ∧ ∀ i, w.cell? ⟨b, i, none⟩ = os[i]? := by
  unfold World.cell? at h
  cases hh : w.heap[b]? with
  | none => simp [hh] at h
  | some ob =>
    cases ob with
    | cells cs e fr =>
      refine ⟨cs.size, cs.toList, ?_, ?_, fun i => ?_⟩
      · unfold beta0; rw [hh]
      · show (match w.heap[b]? with | some (.cells cs _ _) => _ | some _ => _ | none => _) = _
        rw [hh]
      · simp [World.cell?, hh]
    | _ => simp [hh] at h

section
variable {H : Type} {enc : TypeId × Value → H} {w : World} {base : Nat} {spare : Nat → Bool} {held : Bool}
/-- Whatever reads at this type is read by R in the canonical memory. -/
def COpens {α : Type} (enc : TypeId × Value → H) (P : Program) (w : World) (base : Nat) (spare : Nat → Bool) (held : Bool) (t : TypeId) (sz : Nat) (R : CRep α) : Prop :=
  ∀ fuel cs x, DataW.trod enc P w base spare held fuel t cs = some x → cs.length = sz ∧ (∀ v ∈ cs, VR (beta0 w) (cz v) v) ∧ ∃ y, R (heap0 w) (cs.map cz) y
theorem copens_int {t : TypeId} {k : IntKind} (ht : P.underlying t = some (.int k)) : COpens enc P w base spare held t 1 (CInt k) := by
  intro fuel cs x h
  obtain ⟨n, rfl, _, h3⟩ := DataW.trod_int ht h
  exact ⟨rfl, fun v hv => by simp at hv; subst hv; exact .int _ _, n, rfl, h3⟩
theorem copens_bool {t : TypeId} (ht : P.underlying t = some .bool) : COpens enc P w base spare held t 1 CBool := by
  intro fuel cs x h
  obtain ⟨n, rfl, _⟩ := DataW.trod_bool ht h
  exact ⟨rfl, fun v hv => by simp at hv; subst hv; exact .bool _, n, rfl⟩
theorem copens_string {t : TypeId} (ht : P.underlying t = some .string) : COpens enc P w base spare held t 1 CString := by
  intro fuel cs x h
  obtain ⟨n, rfl, _, h3⟩ := DataW.trod_string ht h
  exact ⟨rfl, fun v hv => by simp at hv; subst hv; exact .string _, n, rfl, h3⟩
theorem copens_slice {α : Type} {R : CRep α} {t e : TypeId} {sz : Nat} (ht : P.underlying t = some (.slice e)) (hc : P.cellsOf e = sz) (hp : 0 < sz) (he : COpens enc P w base spare held e sz R) :
    COpens enc P w base spare held t 1 (CSl sz R) := by
  intro fuel cs x h
  rcases Deep.open_slice ht h with ⟨rfl, _⟩ | ⟨a, len, cap, m, n, D, Pl, rfl, hb, hl, hm, hmm, _, hx⟩
  · exact ⟨rfl, fun v hv => by simp at hv; subst hv; exact .snil, [], none, 0, rfl, .inl ⟨rfl, rfl, .inl rfl⟩⟩
  · refine ⟨rfl, ?_⟩
    cases len with
    | zero =>
      cases cap with
      | zero => exact ⟨fun v hv => by simp at hv; subst hv; exact .svoid a, [], some ⟨0, 0, some 0⟩, 0, rfl, .inl ⟨rfl, rfl, .inr (.inl rfl)⟩⟩
      | succ c => exact ⟨fun v hv => by simp at hv; subst hv; exact .sweird a (c + 1), [], some ⟨0, 0, some 1⟩, 0, rfl, .inl ⟨rfl, rfl, .inr (.inr rfl)⟩⟩
    | succ len =>
      have hlm : len + 1 ≤ m := by rw [hmm]; split <;> omega
      have each : ∀ i, i < len + 1 → ∃ y : α, ∃ es : List Value, es.length = sz ∧ (∀ v ∈ es, VR (beta0 w) (cz v) v) ∧ R (heap0 w) (es.map cz) y ∧ ∀ j (hj : j < es.length), w.cell? ((a.add (i * sz)).add j) = some es[j] := by
        intro i hi
        obtain ⟨cs', h1, h2⟩ := hx i (by omega)
        obtain ⟨hl', hv, y, hy⟩ := he _ _ _ h2
        rw [hc] at h1
        obtain ⟨_, _, hcell⟩ := World.cells?_some h1
        exact ⟨y, cs', hl', hv, hy, fun j hj => by rw [hcell j (by omega), List.getElem?_eq_getElem hj]⟩
      have hsp : a.spot = none := by
        obtain ⟨_, es, h1, _, _, h3⟩ := each 0 (by omega)
        have := h3 0 (by omega)
        simp only [Nat.zero_mul, Addr.add, if_true] at this
        unfold World.cell? at this
        cases hs : a.spot with
        | none => rfl
        | some k =>
          split at this
          · simp [hs] at this
          · cases this
      obtain ⟨ab, ao, asp⟩ := a
      simp only at hsp
      subst hsp
      have hadd : ∀ k j, (((⟨ab, ao, none⟩ : Addr).add k).add j) = ⟨ab, ao + k + j, none⟩ := by
        intro k j
        unfold Addr.add
        (repeat' split) <;> simp_all
      obtain ⟨ys, hy1, hy2⟩ := list_of each
      have hfst : ∃ v, w.cell? ⟨ab, ao, none⟩ = some v := by
        obtain ⟨_, es, h1, _, _, h3⟩ := each 0 (by omega)
        have := h3 0 (by omega)
        rw [hadd] at this
        simp only [Nat.zero_mul, Nat.add_zero] at this
        exact ⟨_, this⟩
      obtain ⟨v0, hv0⟩ := hfst
      obtain ⟨nn, os, hbeta, hob, hcells⟩ := beta0_cell hv0
      have hlen : ∀ i, i < len + 1 → ao + (i + 1) * sz ≤ os.length := by
        intro i hi
        obtain ⟨_, es, h1, _, _, h3⟩ := each i hi
        have := h3 (sz - 1) (by omega)
        rw [hadd, hcells] at this
        have := (List.getElem?_eq_some_iff.1 this).1
        rw [Nat.add_mul, Nat.one_mul]
        omega
      have htake : ∀ i, i < len + 1 → ∀ es : List Value, es.length = sz → (∀ v ∈ es, VR (beta0 w) (cz v) v) → (∀ j (hj : j < es.length), w.cell? (((⟨ab, ao, none⟩ : Addr).add (i * sz)).add j) = some es[j]) →
          ((os.map (mask (beta0 w))).drop (ao + i * sz)).take sz = es.map cz := by
        intro i hi es h1 hv h3
        apply List.ext_getElem?
        intro j
        by_cases hj : j < sz
        · rw [List.getElem?_take_of_lt hj, List.getElem?_drop, List.getElem?_map, List.getElem?_map, ← hcells]
          have := h3 j (by omega)
          rw [hadd] at this
          rw [this, List.getElem?_eq_getElem (by omega)]
          simp only [Option.map_some]
          rw [mask_of (hv _ (List.getElem_mem _))]
        · rw [List.getElem?_eq_none (by simp; omega), List.getElem?_eq_none (by simp; omega)]
      refine ⟨fun v hv => ?_, ys, some ⟨ab, ao, none⟩, cap, ?_, (.inr ⟨ab, ao, _, 0, .ro, rfl, World.block_lt_of_cell? _ _ hv0, by omega, hm, hob, ?_, fun i hi => ?_⟩)⟩
      · simp at hv; subst hv; exact .sl hbeta hl (Nat.le_refl _) hm (fun h => absurd rfl h) (fun _ => rfl)
      · rw [hy1]; rfl
      · rw [hy1]; simpa using hlen len (by omega)
      · obtain ⟨es, h1, h2, h3, h4⟩ := hy2 i hi
        rw [htake i (by omega) es h1 h2 h4]
        exact h3
/-- The rest of a struct's fields. -/
def COpensF {α : Type} (enc : TypeId × Value → H) (P : Program) (w : World) (base : Nat) (spare : Nat → Bool) (held : Bool) (fs : List Field) (o sz : Nat) (R : CRep α) : Prop :=
  ∀ n (cs : List Value), (∀ (i : Nat) (f : Field), fs[i]? = some f → ∃ x, DataW.trod enc P w base spare held n f.type ((cs.drop f.offset).take (P.cellsOf f.type)) = some x) → cs.length = o + sz →
    (∀ v ∈ cs.drop o, VR (beta0 w) (cz v) v) ∧ ∃ y, R (heap0 w) ((cs.drop o).map cz) y
theorem copens_nil {o : Nat} : COpensF enc P w base spare held [] o 0 CUnit := fun n cs _ hl => by
  have : cs.drop o = [] := List.drop_eq_nil_of_le (by omega)
  rw [this]
  exact ⟨fun v hv => by simp at hv, (), rfl⟩
theorem copens_cons {α β : Type} {f : Field} {fs : List Field} {o n sz : Nat} {R : CRep α} {S : CRep β} (ho : f.offset = o) (hc : P.cellsOf f.type = n) (h : COpens enc P w base spare held f.type n R) (hr : COpensF enc P w base spare held fs (o + n) sz S) :
    COpensF enc P w base spare held (f :: fs) o (n + sz) (CPair n R S) := fun m cs hx hl => by
  obtain ⟨x, h0⟩ := hx 0 f rfl
  rw [ho, hc] at h0
  obtain ⟨h1, h2, y, h3⟩ := h _ _ _ h0
  obtain ⟨k1, z, k2⟩ := hr m cs (fun i g hg => hx (i + 1) g (by simpa using hg)) (by omega)
  have hd : cs.drop o = (cs.drop o).take n ++ cs.drop (o + n) := by rw [← List.drop_drop, List.take_append_drop]
  refine ⟨fun v hv => ?_, (y, z), ?_, ?_⟩
  · rw [hd] at hv
    rcases List.mem_append.1 hv with hv | hv
    · exact h2 v hv
    · exact k1 v hv
  · rw [← List.map_take]; exact h3
  · rw [← List.map_drop, List.drop_drop]; exact k2
theorem copens_struct {α : Type} {t : TypeId} {fs : Array Field} {sz : Nat} {R : CRep α} (ht : P.underlying t = some (.struct fs)) (hc : P.cellsOf t = sz) (h : COpensF enc P w base spare held fs.toList 0 sz R) : COpens enc P w base spare held t sz R := by
  intro fuel cs x hx
  obtain ⟨xs, n, _, _, hl, hxl, hf⟩ := DataW.trod_struct ht hx
  have := h n cs (fun i f hfi => by
    have hfi' : fs[i]? = some f := by simpa using hfi
    have hi : i < xs.length := by rw [hxl]; exact (Array.getElem?_eq_some_iff.1 hfi').1
    exact ⟨xs[i], by rw [hf i f hfi', List.getElem?_eq_getElem hi]⟩) (by omega)
  rw [List.drop_zero] at this
  exact ⟨by omega, this.1, this.2⟩
theorem copens_array {α : Type} {t e : TypeId} {n sz : Nat} {R : CRep α} (ht : P.underlying t = some (.array n e)) (hc : P.cellsOf e = sz) (hp : 0 < sz) (hcs : P.cellsOf t = n * sz) (h : COpens enc P w base spare held e sz R) :
    COpens enc P w base spare held t (n * sz) (CArr n sz R) := by
  intro fuel cs x hx
  obtain ⟨xs, m, _, _, hl, hxl, hf⟩ := DataW.trod_array ht hx
  have each : ∀ i, i < n → ∃ y : α, R (heap0 w) (((cs.drop (i * sz)).take sz).map cz) y ∧ ∀ v ∈ (cs.drop (i * sz)).take sz, VR (beta0 w) (cz v) v := by
    intro i hi
    have := hf i hi
    rw [hc, List.getElem?_eq_getElem (by omega)] at this
    obtain ⟨_, h2, y, h3⟩ := h _ _ _ this
    exact ⟨y, h3, h2⟩
  obtain ⟨ys, hy1, hy2⟩ := list_of each
  refine ⟨by omega, fun v hv => ?_, ys, hy1, fun i hi => ?_⟩
  · obtain ⟨j, hj, rfl⟩ := List.getElem_of_mem hv
    have hjn : j / sz < n := by rw [Nat.div_lt_iff_lt_mul hp]; omega
    obtain ⟨_, _, h2⟩ := each (j / sz) hjn
    apply h2
    have hmod := Nat.mod_lt j hp
    have hdm := Nat.div_add_mod j sz
    rw [List.mem_iff_getElem?]
    refine ⟨j % sz, ?_⟩
    rw [List.getElem?_take_of_lt hmod, List.getElem?_drop, show j / sz * sz + j % sz = j by rw [Nat.mul_comm]; exact hdm, List.getElem?_eq_getElem hj]
  · rw [← List.map_drop, ← List.map_take]
    exact (hy2 i hi).1
theorem cells_czv (v : Value) : (czv v).cells.toList = v.cells.toList.map cz := by
  cases v <;> try rfl
  rename_i a n c
  cases a with
  | none => rfl
  | some a => cases n with
    | zero => cases c <;> rfl
    | succ n => rfl
theorem copens_trod {α : Type} {t : TypeId} {sz : Nat} {R : CRep α} (he : COpens enc P w base spare held t sz R) {v : Value} {d : DataW H} {p : List MemPlace} (h : DataW.Trod enc P w base spare held t v d p) :
    VR (beta0 w) (czv v) v ∧ (czv v).cells.toList.length = sz ∧ ∃ y, R (heap0 w) (czv v).cells.toList y := by
  obtain ⟨fuel, hf⟩ := h
  obtain ⟨h1, h2, h3⟩ := he fuel _ _ hf
  rw [cells_czv]
  refine ⟨?_, by simpa using h1, h3⟩
  by_cases hv : ∃ cs, v = .agg cs
  · obtain ⟨cs, rfl⟩ := hv
    refine .agg (by simp) fun i i1 i2 => ?_
    simp only [List.getElem_toArray, List.getElem_map, Array.getElem_toList]
    exact h2 _ (by simp [Value.cells])
  · have hc : v.cells = #[v] := by cases v <;> first | rfl | exact absurd ⟨_, rfl⟩ hv
    have hz : czv v = cz v := by cases v <;> first | rfl | exact absurd ⟨_, rfl⟩ hv
    rw [hz]
    exact h2 v (by rw [hc]; simp)
theorem agg_of {v a b : Value} {r : List Value} (h : v.cells.toList = a :: b :: r) : v = .agg (a :: b :: r).toArray := by
  cases v <;> first | (exact congrArg Value.agg (by rw [← h]; simp [Value.cells])) | (simp [Value.cells] at h)
theorem one_of {α : Type} {R : CRep α} {H : CH} {v : Value} {y : α} (h : (czv v).cells.toList.length = 1) (hv : ∀ cs, v ≠ .agg cs) (hr : R H (czv v).cells.toList y) : R H [czv v] y := by
  have : (czv v).cells.toList = [czv v] := by
    cases v <;> first | exact absurd rfl (hv _) | rfl | skip
    rename_i a n c
    cases a with
    | none => rfl
    | some a => cases n with
      | zero => cases c <;> rfl
      | succ n => rfl
  rwa [this] at hr
end
/-- The end of a proof: what the canonical run answers, the call answers, and what was there before is as it was. -/
theorem calls_true {T : Tbl} {w : World} (hT : TblOk P w.heap.size T) {f : FuncId} {args args' : List Value} (hv : VRs (beta0 w) args args') (h : WpF T f args (heap0 w) fun v _ => v = .bool true) :
    Calls P f args'.toArray w fun e w' => e = .returned (.bool true) ∧ Below w.heap.size w w' := by
  obtain ⟨n, v, H', h1, rfl⟩ := h
  refine (calls_of_ev hT h1 (sim0 w) hv).mono fun e w' ⟨v', β', he, hvr, hs, hevo⟩ => ?_
  cases hvr
  exact ⟨he, below0 hevo⟩
end Can
end Go.Proofs.Ytmpojphjongdcaa
