/- Canonical runs: values and memories up to the names of blocks and the room behind slices. Over any program. -/
import Derived.WalkKit
import Derived.ProofKit
import Derived.Lib.Hide
import Derived.RangeFuncRecord
namespace Go.Proofs.Ytmpojphjongdcaa
namespace Can
open Go Go.RowKit
set_option linter.unusedSimpArgs false
set_option linter.unusedVariables false

/-- A row of cells: of an argument (never written), of a known size, or grown by append (of a size that is drawn). -/
inductive Kd where
  | ro | ex | gr
/-- What a canonical name stands for in the world. -/
inductive Ent where
  | unborn | dead
  | live (b sz n : Nat) (k : Kd)
  | obj (b : Nat)
  | loop (b : Nat)
/-- The same value, but for the names of blocks and the room behind slices. -/
inductive VR (β : Nat → Ent) : Value → Value → Prop where
  | undef (v' : Value) : VR β (.tuple #[]) v'
  | skip : VR β (.chan none) (.tuple #[])
  | bool (b : Bool) : VR β (.bool b) (.bool b)
  | int (k : IntKind) (n : Int) : VR β (.int k n) (.int k n)
  | float (k : FloatKind) (n : Nat) : VR β (.float k n) (.float k n)
  | string (s : ByteArray) : VR β (.string s) (.string s)
  | pnil : VR β (.pointer none) (.pointer none)
  | ptr {l o b sz n : Nat} {k : Kd} (h : β l = .live b sz n k) : VR β (.pointer (some ⟨l, o, none⟩)) (.pointer (some ⟨b, o, none⟩))
  | pdead {l o : Nat} (a : Addr) (h : β l = .dead) : VR β (.pointer (some ⟨l, o, none⟩)) (.pointer (some a))
  | snil : VR β (.slice none 0 0) (.slice none 0 0)
  | sl {l o b sz n m c c' : Nat} {k : Kd} (h : β l = .live b sz n k) (h1 : m ≤ c) (h2 : c ≤ c') (h3 : c' ≤ maxLen) (h4 : k ≠ .ro → o + c' * sz ≤ n) (h5 : k ≠ .gr → c' = c) :
      VR β (.slice (some ⟨l, o, none⟩) m c) (.slice (some ⟨b, o, none⟩) m c')
  | svoid (a : Addr) : VR β (.slice (some ⟨0, 0, some 0⟩) 0 0) (.slice (some a) 0 0)
  | sweird (a : Addr) (c : Nat) : VR β (.slice (some ⟨0, 0, some 1⟩) 0 0) (.slice (some a) 0 c)
  | sdead {l o m c c' : Nat} (a : Addr) (h : β l = .dead) (h2 : c ≤ c') : VR β (.slice (some ⟨l, o, none⟩) m c) (.slice (some a) m c')
  | fnil : VR β .nilFunc .nilFunc
  | fn (f : FuncId) {as bs : Array Value} (h : as.size = bs.size) (hi : ∀ i (h1 : i < as.size) (h2 : i < bs.size), VR β as[i] bs[i]) : VR β (.func (.func f) #[] as) (.func (.func f) #[] bs)
  | yld {l b : Nat} (h : β l = .loop b) : VR β (.func (.yield l) #[] #[]) (.func (.yield b) #[] #[])
  | inil : VR β .nilIface .nilIface
  | iface (t : TypeId) {v v' : Value} (h : VR β v v') : VR β (.iface t v) (.iface t v')
  | agg {as bs : Array Value} (h : as.size = bs.size) (hi : ∀ i (h1 : i < as.size) (h2 : i < bs.size), VR β as[i] bs[i]) : VR β (.agg as) (.agg bs)
  | tuple {as bs : Array Value} (h : as.size = bs.size) (hi : ∀ i (h1 : i < as.size) (h2 : i < bs.size), VR β as[i] bs[i]) : VR β (.tuple as) (.tuple bs)
  | mnil : VR β (.map none) (.map none)
  | map {l b : Nat} (h : β l = .obj b) : VR β (.map (some l)) (.map (some b))

/-- Names are given once; a live one may die. -/
def EntExt (β β' : Nat → Ent) : Prop := ∀ l, β' l = β l ∨ β l = .unborn ∨ (∃ b sz n k, β l = .live b sz n k ∧ β' l = .dead)
theorem EntExt.refl (β : Nat → Ent) : EntExt β β := fun _ => .inl rfl
theorem EntExt.trans {a b c : Nat → Ent} (h : EntExt a b) (k : EntExt b c) : EntExt a c := fun l => by
  rcases h l with h | h | ⟨b1, sz, n, k1, h, h'⟩
  · rcases k l with k | k | ⟨b1, sz, n, k1, k, k'⟩
    · exact .inl (k.trans h)
    · exact .inr (.inl (h ▸ k))
    · exact .inr (.inr ⟨b1, sz, n, k1, h ▸ k, k'⟩)
  · exact .inr (.inl h)
  · rcases k l with k | k | ⟨b2, sz2, n2, k2, k, k'⟩
    · exact .inr (.inr ⟨b1, sz, n, k1, h, k.trans h'⟩)
    · rw [h'] at k; cases k
    · rw [h'] at k; cases k
theorem VR.mono {β β' : Nat → Ent} (hx : EntExt β β') {v v' : Value} (h : VR β v v') : VR β' v v' := by
  induction h with
  | undef v' => exact .undef v'
  | skip => exact .skip
  | bool b => exact .bool b
  | int k n => exact .int k n
  | float k n => exact .float k n
  | string s => exact .string s
  | pnil => exact .pnil
  | @ptr l o b sz n k h =>
    rcases hx l with e | e | ⟨_, _, _, _, _, e⟩
    · exact .ptr (e.trans h)
    · rw [h] at e; cases e
    · exact .pdead _ e
  | @pdead l o a h =>
    rcases hx l with e | e | ⟨_, _, _, _, e, _⟩
    · exact .pdead a (e.trans h)
    · rw [h] at e; cases e
    · rw [h] at e; cases e
  | snil => exact .snil
  | @sl l o b sz n m c c' k h h1 h2 h3 h4 h5 =>
    rcases hx l with e | e | ⟨_, _, _, _, _, e⟩
    · exact .sl (e.trans h) h1 h2 h3 h4 h5
    · rw [h] at e; cases e
    · exact .sdead _ e h2
  | svoid a => exact .svoid a
  | sweird a c => exact .sweird a c
  | @sdead l o m c c' a h h2 =>
    rcases hx l with e | e | ⟨_, _, _, _, e, _⟩
    · exact .sdead a (e.trans h) h2
    · rw [h] at e; cases e
    · rw [h] at e; cases e
  | fnil => exact .fnil
  | fn f h hi ih => exact .fn f h ih
  | @yld l b h =>
    rcases hx l with e | e | ⟨_, _, _, _, e, _⟩
    · exact .yld (e.trans h)
    · rw [h] at e; cases e
    · rw [h] at e; cases e
  | inil => exact .inil
  | iface t h ih => exact .iface t ih
  | agg h hi ih => exact .agg h ih
  | tuple h hi ih => exact .tuple h ih
  | mnil => exact .mnil
  | @map l b h =>
    rcases hx l with e | e | ⟨_, _, _, _, e, _⟩
    · exact .map (e.trans h)
    · rw [h] at e; cases e
    · rw [h] at e; cases e

/-- Rows of values, one by one. -/
def VRs (β : Nat → Ent) (as bs : List Value) : Prop := as.length = bs.length ∧ ∀ (i : Nat) (v : Value), as[i]? = some v → ∃ v', bs[i]? = some v' ∧ VR β v v'
theorem VRs.mono {β β' : Nat → Ent} (hx : EntExt β β') {as bs : List Value} (h : VRs β as bs) : VRs β' as bs :=
  ⟨h.1, fun i v hv => let ⟨v', h1, h2⟩ := h.2 i v hv; ⟨v', h1, h2.mono hx⟩⟩
theorem VRs.nil (β : Nat → Ent) : VRs β [] [] := ⟨rfl, fun i v h => by simp at h⟩
theorem VRs.cons {β : Nat → Ent} {a b : Value} {as bs : List Value} (h : VR β a b) (hs : VRs β as bs) : VRs β (a :: as) (b :: bs) := by
  refine ⟨by simp [hs.1], fun i v hv => ?_⟩
  cases i with
  | zero => simp at hv; subst hv; exact ⟨b, rfl, h⟩
  | succ i => simpa using hs.2 i v (by simpa using hv)
theorem VRs.append {β : Nat → Ent} {as bs cs ds : List Value} (h : VRs β as bs) (k : VRs β cs ds) : VRs β (as ++ cs) (bs ++ ds) := by
  refine ⟨by simp [h.1, k.1], fun i v hv => ?_⟩
  by_cases hi : i < as.length
  · rw [List.getElem?_append_left hi] at hv
    obtain ⟨v', h1, h2⟩ := h.2 i v hv
    exact ⟨v', by rw [List.getElem?_append_left (by have := h.1; omega)]; exact h1, h2⟩
  · rw [List.getElem?_append_right (by omega)] at hv
    obtain ⟨v', h1, h2⟩ := k.2 _ v hv
    exact ⟨v', by rw [List.getElem?_append_right (by have := h.1; omega), ← h.1]; exact h1, h2⟩
theorem VRs.arr {β : Nat → Ent} {as bs : Array Value} : VRs β as.toList bs.toList ↔ as.size = bs.size ∧ ∀ i (h1 : i < as.size) (h2 : i < bs.size), VR β as[i] bs[i] := by
  constructor
  · rintro ⟨h1, h2⟩
    refine ⟨by simpa using h1, fun i hi hj => ?_⟩
    obtain ⟨v', h3, h4⟩ := h2 i as[i] (by simp [hi])
    simp [hj] at h3; rw [h3]; exact h4
  · rintro ⟨h1, h2⟩
    refine ⟨by simpa using h1, fun i v hv => ?_⟩
    obtain ⟨hi, rfl⟩ := List.getElem?_eq_some_iff.1 hv
    have hi' : i < as.size := by simpa using hi
    exact ⟨bs[i]'(by omega), by simp, by simpa using h2 i hi' (by omega)⟩

/-- A value that may lie in memory or go through a call: no result of several. -/
def isVal : Value → Bool
  | .tuple _ => false
  | .chan _ => false
  | _ => true
/-- .. and that takes one cell. -/
def isCell : Value → Bool
  | .tuple _ => false
  | .agg _ => false
  | .chan _ => false
  | _ => true
theorem VR.cells {β : Nat → Ent} {v v' : Value} (h : VR β v v') (hv : isVal v = true) : VRs β v.cells.toList v'.cells.toList := by
  cases h with
  | agg h hi => exact VRs.arr.2 ⟨h, hi⟩
  | undef => cases hv
  | skip => cases hv
  | tuple => cases hv
  | bool b => exact VRs.cons (.bool b) (VRs.nil β)
  | int k n => exact VRs.cons (.int k n) (VRs.nil β)
  | float k n => exact VRs.cons (.float k n) (VRs.nil β)
  | string s => exact VRs.cons (.string s) (VRs.nil β)
  | pnil => exact VRs.cons .pnil (VRs.nil β)
  | ptr h => exact VRs.cons (.ptr h) (VRs.nil β)
  | pdead a h => exact VRs.cons (.pdead a h) (VRs.nil β)
  | snil => exact VRs.cons .snil (VRs.nil β)
  | sl h h1 h2 h3 h4 h5 => exact VRs.cons (.sl h h1 h2 h3 h4 h5) (VRs.nil β)
  | svoid a => exact VRs.cons (.svoid a) (VRs.nil β)
  | sweird a c => exact VRs.cons (.sweird a c) (VRs.nil β)
  | sdead a h h2 => exact VRs.cons (.sdead a h h2) (VRs.nil β)
  | fnil => exact VRs.cons .fnil (VRs.nil β)
  | fn f h hi => exact VRs.cons (.fn f h hi) (VRs.nil β)
  | yld h => exact VRs.cons (.yld h) (VRs.nil β)
  | inil => exact VRs.cons .inil (VRs.nil β)
  | iface t h => exact VRs.cons (.iface t h) (VRs.nil β)
  | mnil => exact VRs.cons .mnil (VRs.nil β)
  | map h => exact VRs.cons (.map h) (VRs.nil β)
theorem VR.isCell {β : Nat → Ent} {v v' : Value} (h : VR β v v') (hv : isCell v = true) : Can.isCell v' = true := by
  cases h <;> first | rfl | cases hv
theorem VR.isVal {β : Nat → Ent} {v v' : Value} (h : VR β v v') (hv : isVal v = true) : Can.isVal v' = true := by
  cases h <;> first | rfl | cases hv

/-- A canonical object. -/
inductive CObj where
  | unborn | dead
  | cells (cs : List Value) (e : TypeId) (k : Kd)
  | map (es : Array MapEntry) (clock : Nat)
  | loop (st : LoopState) (pend : Option (Option Nat)) (fr : Nat → Value) (key : Nat × Nat)
structure CH where
  nx : Nat
  ob : Nat → CObj
def CH.set (H : CH) (l : Nat) (o : CObj) : CH := { H with ob := fun k => if k = l then o else H.ob k }
def CH.new (H : CH) (o : CObj) : CH := { nx := H.nx + 1, ob := fun k => if k = H.nx then o else H.ob k }
def upd (β : Nat → Ent) (l : Nat) (e : Ent) : Nat → Ent := fun k => if k = l then e else β k
theorem upd_same {β : Nat → Ent} {l : Nat} {e : Ent} : upd β l e l = e := by simp [upd]
theorem upd_other {β : Nat → Ent} {l k : Nat} {e : Ent} (h : k ≠ l) : upd β l e k = β k := by simp [upd, h]

/-- The cells of a live name. -/
def Live (P : Program) (B : Nat) (β : Nat → Ent) (w : World) (b sz n : Nat) (k : Kd) (cs : List Value) (e : TypeId) : Prop :=
  ∃ (cs' : Array Value) (e' : TypeId) (fr : Nat × Nat), w.heap[b]? = some (.cells cs' e' fr) ∧ cs'.size = n ∧ cs.length ≤ n ∧
    (∀ (i : Nat) (v : Value), cs[i]? = some v → ∃ v', cs'[i]? = some v' ∧ VR β v v') ∧ (k ≠ .ro → (P.info? e).map (·.size) = some sz) ∧
    (k ≠ .ro → e' = e ∧ B ≤ b ∧ ∀ i, i < n → (decide (fr.1 ≤ i) && decide (i < fr.2)) = false) ∧ (k = .ro → b < B) ∧ (k = .ex → cs.length = n)
def MapRel (β : Nat → Ent) (w : World) (b : Nat) (es : Array MapEntry) (clock : Nat) : Prop :=
  ∃ es' : Array MapEntry, w.heap[b]? = some (.map es' clock) ∧ es'.size = es.size ∧
    ∀ i (h : i < es.size) (h' : i < es'.size), VR β es[i].key es'[i].key ∧ VR β es[i].val es'[i].val ∧ es'[i].born = es[i].born
/-- The loops over functions of a code, in its order; each has a key: its function and its place. -/
def loopsOf : Code → List (Array Tmp × Code × Code)
  | .seq a b | .cond _ a b => loopsOf a ++ loopsOf b
  | .block _ c | .loop c | .scope c => loopsOf c
  | .rangeFunc _ ps a b => (ps, a, b) :: (loopsOf a ++ loopsOf b)
  | _ => []
def keyOf (P : Program) (key : Nat × Nat) : Option (Nat × Array Tmp × Code × Code) :=
  match P.funcs[key.1]? with
  | some fn => match fn.body with
    | some c => ((loopsOf c)[key.2]?).map fun x => (fn.ntmps, x)
    | none => none
  | none => none
def pendC : Option Nat → Code
  | none => .ret
  | some i => .exit i
def LoopRel (P : Program) (β : Nat → Ent) (w : World) (b : Nat) (st : LoopState) (pend : Option (Option Nat)) (fr : Nat → Value) (key : Nat × Nat) : Prop :=
  ∃ (r : Loop) (N : Nat), w.heap[b]? = some (.loop r) ∧ r.state = st ∧ r.pending = pend.map pendC ∧ keyOf P key = some (N, r.params, r.assign, r.body) ∧ N ≤ r.tmps.size ∧ ∀ t, VR β (fr t) (r.tmps.getD t undef)
def EntRel (P : Program) (B : Nat) (β : Nat → Ent) (w : World) : Ent → CObj → Prop
  | .unborn, .unborn => True
  | .dead, .dead => True
  | .live b sz n k, .cells cs e k' => k = k' ∧ Live P B β w b sz n k cs e
  | .obj b, .map es clock => B ≤ b ∧ MapRel β w b es clock
  | .loop b, .loop st pend fr key => B ≤ b ∧ LoopRel P β w b st pend fr key
  | _, _ => False
/-- Is the block the one that a name owns? -/
def Ent.owns : Ent → Nat → Prop
  | .live b _ _ k, b' => k ≠ .ro ∧ b = b'
  | .obj b, b' => b = b'
  | .loop b, b' => b = b'
  | _, _ => False
structure Sim (P : Program) (B : Nat) (β : Nat → Ent) (H : CH) (w : World) : Prop where
  ent : ∀ l, EntRel P B β w (β l) (H.ob l)
  nx : ∀ l, H.nx ≤ l → H.ob l = .unborn
  inj : ∀ l l' b, (β l).owns b → (β l').owns b → l = l'
  base : B ≤ w.heap.size
def Out (β : Nat → Ent) (b : Nat) : Prop := ∀ l, ¬ (β l).owns b
structure Evo (β : Nat → Ent) (w : World) (β' : Nat → Ent) (w' : World) : Prop where
  os : w'.os = w.os
  tape : w'.tape = w.tape
  output : w'.output = w.output
  size : w.heap.size ≤ w'.heap.size
  keep : ∀ b, b < w.heap.size → Out β b → w'.heap[b]? = w.heap[b]? ∧ Out β' b
  ext : EntExt β β'
theorem Evo.refl (β : Nat → Ent) (w : World) : Evo β w β w := ⟨rfl, rfl, rfl, Nat.le_refl _, fun _ _ h => ⟨rfl, h⟩, EntExt.refl β⟩
theorem Evo.trans {β β' β'' : Nat → Ent} {w w' w'' : World} (h : Evo β w β' w') (k : Evo β' w' β'' w'') : Evo β w β'' w'' :=
  ⟨k.os.trans h.os, k.tape.trans h.tape, k.output.trans h.output, Nat.le_trans h.size k.size, fun b hb ho => by
    obtain ⟨h1, h2⟩ := h.keep b hb ho
    obtain ⟨k1, k2⟩ := k.keep b (Nat.lt_of_lt_of_le hb h.size) h2
    exact ⟨k1.trans h1, k2⟩, h.ext.trans k.ext⟩
theorem Sim.unborn {P : Program} {B : Nat} {β : Nat → Ent} {H : CH} {w : World} (h : Sim P B β H w) : β H.nx = .unborn := by
  have h1 := h.ent H.nx
  rw [h.nx _ (Nat.le_refl _)] at h1
  cases hb : β H.nx <;> rw [hb] at h1 <;> first | rfl | exact h1.elim
theorem Sim.live {P : Program} {B : Nat} {β : Nat → Ent} {H : CH} {w : World} (h : Sim P B β H w) {l b sz n : Nat} {k : Kd} (hl : β l = .live b sz n k) :
    ∃ cs e, H.ob l = .cells cs e k ∧ Live P B β w b sz n k cs e := by
  have h1 := h.ent l
  rw [hl] at h1
  cases ho : H.ob l with
  | cells cs e k' => rw [ho] at h1; obtain ⟨rfl, h2⟩ := h1; exact ⟨cs, e, rfl, h2⟩
  | _ => rw [ho] at h1; exact h1.elim
theorem Sim.cells {P : Program} {B : Nat} {β : Nat → Ent} {H : CH} {w : World} (h : Sim P B β H w) {l : Nat} {cs : List Value} {e : TypeId} {k : Kd} (ho : H.ob l = .cells cs e k) :
    ∃ b sz n, β l = .live b sz n k ∧ Live P B β w b sz n k cs e := by
  have h1 := h.ent l
  rw [ho] at h1
  cases hb : β l with
  | live b sz n k' => rw [hb] at h1; obtain ⟨rfl, h2⟩ := h1; exact ⟨b, sz, n, rfl, h2⟩
  | _ => rw [hb] at h1; exact h1.elim
theorem Live.mono {P : Program} {B : Nat} {β β' : Nat → Ent} {w w' : World} {b sz n : Nat} {k : Kd} {cs : List Value} {e : TypeId} (h : Live P B β w b sz n k cs e) (hx : EntExt β β') (hw : w'.heap[b]? = w.heap[b]?) :
    Live P B β' w' b sz n k cs e := by
  obtain ⟨cs', e', fr, h1, h2, h3, h4, h5⟩ := h
  exact ⟨cs', e', fr, hw.trans h1, h2, h3, fun i v hv => let ⟨v', a, b⟩ := h4 i v hv; ⟨v', a, b.mono hx⟩, h5⟩
theorem MapRel.mono {β β' : Nat → Ent} {w w' : World} {b : Nat} {es : Array MapEntry} {c : Nat} (h : MapRel β w b es c) (hx : EntExt β β') (hw : w'.heap[b]? = w.heap[b]?) : MapRel β' w' b es c := by
  obtain ⟨es', h1, h2, h3⟩ := h
  exact ⟨es', hw.trans h1, h2, fun i hi hj => let ⟨a, b, c⟩ := h3 i hi hj; ⟨a.mono hx, b.mono hx, c⟩⟩
theorem LoopRel.mono {P : Program} {β β' : Nat → Ent} {w w' : World} {b : Nat} {st : LoopState} {pend : Option (Option Nat)} {fr : Nat → Value} {key : Nat × Nat} (h : LoopRel P β w b st pend fr key) (hx : EntExt β β') (hw : w'.heap[b]? = w.heap[b]?) : LoopRel P β' w' b st pend fr key := by
  obtain ⟨r, N, h1, h2, h3, h4, h5, h6⟩ := h
  exact ⟨r, N, hw.trans h1, h2, h3, h4, h5, fun t => (h6 t).mono hx⟩
theorem EntRel.mono {P : Program} {B : Nat} {β β' : Nat → Ent} {w w' : World} {E : Ent} {o : CObj} (h : EntRel P B β w E o) (hx : EntExt β β') (hw : ∀ b, (∃ sz n k, E = .live b sz n k) ∨ E = .obj b ∨ E = .loop b → w'.heap[b]? = w.heap[b]?) :
    EntRel P B β' w' E o := by
  cases E <;> cases o <;> try exact h
  · exact ⟨h.1, h.2.mono hx (hw _ (.inl ⟨_, _, _, rfl⟩))⟩
  · exact ⟨h.1, h.2.mono hx (hw _ (.inr (.inl rfl)))⟩
  · exact ⟨h.1, h.2.mono hx (hw _ (.inr (.inr rfl)))⟩

/-- A load. -/
theorem Sim.load {P : Program} {B : Nat} {β : Nat → Ent} {H : CH} {w : World} (h : Sim P B β H w) {l o : Nat} {v' : Value} {cs : List Value} {e : TypeId} {k : Kd}
    (hp : VR β (.pointer (some ⟨l, o, none⟩)) v') (ho : H.ob l = .cells cs e k) :
    ∃ b, v' = .pointer (some ⟨b, o, none⟩) ∧ ∀ (i : Nat) (v : Value), cs[i]? = some v → ∃ u, w.cell? ⟨b, i, none⟩ = some u ∧ VR β v u := by
  obtain ⟨b, sz, n, hb, cs', e', fr, h1, h2, h3, h4, h5⟩ := h.cells ho
  cases hp with
  | pdead a hd => rw [hb] at hd; cases hd
  | ptr hl =>
    rw [hb] at hl
    cases hl
    refine ⟨b, rfl, fun i v hv => ?_⟩
    obtain ⟨u, hu, hr⟩ := h4 i v hv
    exact ⟨u, by simp [World.cell?, h1, hu], hr⟩
theorem owns_ge {P : Program} {B : Nat} {β : Nat → Ent} {H : CH} {w : World} (h : Sim P B β H w) {l b : Nat} (ho : (β l).owns b) : B ≤ b ∧ b < w.heap.size := by
  have h1 := h.ent l
  cases hb : β l with
  | live b' sz n k =>
    rw [hb] at ho
    obtain ⟨hk, rfl⟩ := ho
    obtain ⟨cs, e, _, cs', e', fr, h1, _, _, _, _, h5, _⟩ := h.live hb
    exact ⟨(h5 hk).2.1, (Array.getElem?_eq_some_iff.1 h1).1⟩
  | obj b' =>
    rw [hb] at ho h1
    cases ho
    cases hob : H.ob l with
    | map es c =>
      rw [hob] at h1
      obtain ⟨es', h2, _⟩ := h1.2
      exact ⟨h1.1, (Array.getElem?_eq_some_iff.1 h2).1⟩
    | _ => rw [hob] at h1; exact h1.elim
  | loop b' =>
    rw [hb] at ho h1
    cases ho
    cases hob : H.ob l with
    | loop st pend fr key =>
      rw [hob] at h1
      obtain ⟨r, N, h2, _⟩ := h1.2
      exact ⟨h1.1, (Array.getElem?_eq_some_iff.1 h2).1⟩
    | _ => rw [hob] at h1; exact h1.elim
  | _ => rw [hb] at ho; exact ho.elim
theorem live_lt {P : Program} {B : Nat} {β : Nat → Ent} {H : CH} {w : World} (h : Sim P B β H w) {l b sz n : Nat} {k : Kd} (hb : β l = .live b sz n k) : b < w.heap.size := by
  obtain ⟨cs, e, _, cs', e', fr, h1, _⟩ := h.live hb
  exact (Array.getElem?_eq_some_iff.1 h1).1
theorem obj_lt {P : Program} {B : Nat} {β : Nat → Ent} {H : CH} {w : World} (h : Sim P B β H w) {l b : Nat} (hb : β l = .obj b) : b < w.heap.size :=
  (owns_ge h (l := l) (b := b) (by rw [hb]; rfl)).2
theorem loop_lt {P : Program} {B : Nat} {β : Nat → Ent} {H : CH} {w : World} (h : Sim P B β H w) {l b : Nat} (hb : β l = .loop b) : b < w.heap.size :=
  (owns_ge h (l := l) (b := b) (by rw [hb]; rfl)).2
theorem at_lt {P : Program} {B : Nat} {β : Nat → Ent} {H : CH} {w : World} (h : Sim P B β H w) {l b : Nat} (hb : (∃ sz n k, β l = .live b sz n k) ∨ β l = .obj b ∨ β l = .loop b) : b < w.heap.size := by
  rcases hb with ⟨sz, n, k, hb⟩ | hb | hb
  · exact live_lt h hb
  · exact obj_lt h hb
  · exact loop_lt h hb
/-- Two names of one block: both are of arguments, or they are one. -/
theorem live_apart {P : Program} {B : Nat} {β : Nat → Ent} {H : CH} {w : World} (h : Sim P B β H w) {l l' b sz n : Nat} {k : Kd} (hb : β l = .live b sz n k) (hk : k ≠ .ro) {b' : Nat}
    (hl : (∃ sz n k, β l' = .live b' sz n k) ∨ β l' = .obj b' ∨ β l' = .loop b') (hne : l' ≠ l) : b' ≠ b := by
  rintro rfl
  have ho : (β l).owns b' := by rw [hb]; exact ⟨hk, rfl⟩
  have hge := (owns_ge h ho).1
  rcases hl with ⟨sz', n', k', hl⟩ | hl | hl
  · by_cases hk' : k' = .ro
    · obtain ⟨cs, e, _, cs', e', fr, _, _, _, _, _, _, h6, _⟩ := h.live hl
      have := h6 hk'; omega
    · exact hne (h.inj _ _ b' (by rw [hl]; exact ⟨hk', rfl⟩) ho)
  · exact hne (h.inj _ _ b' (by rw [hl]; rfl) ho)
  · exact hne (h.inj _ _ b' (by rw [hl]; rfl) ho)
/-- A store of one cell. -/
theorem Sim.store {P : Program} {B : Nat} {β : Nat → Ent} {H : CH} {w : World} (h : Sim P B β H w) {l o b sz n : Nat} {cs : List Value} {e : TypeId} {k : Kd} (hb : β l = .live b sz n k) (ho : H.ob l = .cells cs e k) (hk : k ≠ .ro)
    (hlt : o < cs.length) {u u' : Value} (hu : VR β u u') :
    (∃ x, w.cell? ⟨b, o, none⟩ = some x) ∧ w.frozen? ⟨b, o, none⟩ = false ∧ Sim P B β (H.set l (.cells (cs.set o u) e k)) (w.setCell ⟨b, o, none⟩ u') ∧ Evo β w β (w.setCell ⟨b, o, none⟩ u') := by
  obtain ⟨cs0, e0, ho0, cs', e', fr, h1, h2, h3, h4, h5, h6, h7, h8⟩ := h.live hb
  rw [ho] at ho0
  cases ho0
  have hheap : (w.setCell ⟨b, o, none⟩ u').heap[b]? = some (.cells (cs'.setIfInBounds o u') e' fr) := by
    simp [World.setCell, Array.getElem?_modify, h1]
  have hother : ∀ b', b' ≠ b → (w.setCell ⟨b, o, none⟩ u').heap[b']? = w.heap[b']? := fun b' hne => Below.heap_setCell _ _ _ _ hne
  refine ⟨⟨cs'[o]'(by omega), by simp [World.cell?, h1]⟩, ?_, ⟨fun l' => ?_, fun l' hl => ?_, h.inj, by simpa using h.base⟩, ⟨rfl, rfl, rfl, by simp, fun b' hb' hout => ⟨hother b' ?_, hout⟩, EntExt.refl β⟩⟩
  · have := (h6 hk).2.2 o (by omega)
    simp only [World.frozen?, h1]
    exact this
  · by_cases hl : l' = l
    · subst hl
      simp only [CH.set, if_true, hb]
      refine ⟨rfl, cs'.setIfInBounds o u', e', fr, hheap, by simpa using h2, by simpa using h3, fun i v hv => ?_, h5, h6, h7, by simpa using h8⟩
      by_cases hi : i = o
      · subst hi
        rw [List.getElem?_set_self (by omega)] at hv
        cases hv
        exact ⟨u', by simp [Array.getElem?_setIfInBounds_self]; omega, hu⟩
      · rw [List.getElem?_set_ne (by omega)] at hv
        obtain ⟨v', a, b⟩ := h4 i v hv
        exact ⟨v', by rw [Array.getElem?_setIfInBounds_ne (by omega)]; exact a, b⟩
    · simp only [CH.set, if_neg hl]
      exact (h.ent l').mono (EntExt.refl β) fun b' hb' => hother b' (live_apart h hb hk hb' hl)
  · have : l' ≠ l := fun e => by subst e; rw [h.nx _ hl] at ho; cases ho
    simp only [CH.set, if_neg this]
    exact h.nx _ hl
  · rintro rfl
    exact hout l (by rw [hb]; exact ⟨hk, rfl⟩)
/-- A new row of cells. -/
theorem Sim.alloc {P : Program} {B : Nat} {β : Nat → Ent} {H : CH} {w : World} (h : Sim P B β H w) {cs : List Value} {cs' : Array Value} {e : TypeId} {sz : Nat} (k : Kd) (hk : k ≠ .ro) (he : (P.info? e).map (·.size) = some sz)
    (hl : cs.length ≤ cs'.size) (hx : k = .ex → cs.length = cs'.size) (hc : ∀ (i : Nat) (v : Value), cs[i]? = some v → ∃ v', cs'[i]? = some v' ∧ VR β v v')
    {fr : Nat × Nat} (hfr : ∀ i, i < cs'.size → (decide (fr.1 ≤ i) && decide (i < fr.2)) = false) {w' : World} (hw : w'.heap = w.heap.push (.cells cs' e fr)) (hos : w'.os = w.os) (htp : w'.tape = w.tape) (hout : w'.output = w.output) :
    Sim P B (upd β H.nx (.live w.heap.size sz cs'.size k)) (H.new (.cells cs e k)) w' ∧ Evo β w (upd β H.nx (.live w.heap.size sz cs'.size k)) w' := by
  have hun := h.unborn
  have hext : EntExt β (upd β H.nx (.live w.heap.size sz cs'.size k)) := fun l => by
    by_cases hl : l = H.nx
    · subst hl; exact .inr (.inl hun)
    · exact .inl (upd_other hl)
  have hold : ∀ b, b < w.heap.size → w'.heap[b]? = w.heap[b]? := fun b hb => by rw [hw, Array.getElem?_push, if_neg (by omega)]
  have hnew : w'.heap[w.heap.size]? = some (.cells cs' e fr) := by rw [hw]; simp
  have hsz : w'.heap.size = w.heap.size + 1 := by rw [hw]; simp
  refine ⟨⟨fun l => ?_, fun l hl => ?_, fun l l' b ho ho' => ?_, by rw [hsz]; exact Nat.le_succ_of_le h.base⟩, ⟨hos, htp, hout, by omega, fun b hb hout => ⟨hold b hb, fun l ho => ?_⟩, hext⟩⟩
  · by_cases hl' : l = H.nx
    · subst hl'
      simp only [upd_same, CH.new, if_true]
      exact ⟨rfl, cs', e, fr, hnew, rfl, hl, fun i v hv => let ⟨v', a, b⟩ := hc i v hv; ⟨v', a, b.mono hext⟩, fun _ => he, fun _ => ⟨rfl, h.base, hfr⟩, fun e => absurd e hk, hx⟩
    · simp only [upd_other hl', CH.new, if_neg hl']
      refine (h.ent l).mono hext fun b hb => hold b ?_
      exact at_lt h hb
  · have : l ≠ H.nx := by simp [CH.new] at hl; omega
    simp only [CH.new, if_neg this]
    exact h.nx l (by simp [CH.new] at hl; omega)
  · by_cases h1 : l = H.nx <;> by_cases h2 : l' = H.nx
    · rw [h1, h2]
    · subst h1
      rw [upd_same] at ho
      rw [upd_other h2] at ho'
      have := (owns_ge h ho').2
      have := ho.2; omega
    · subst h2
      rw [upd_same] at ho'
      rw [upd_other h1] at ho
      have := (owns_ge h ho).2
      have := ho'.2; omega
    · rw [upd_other h1] at ho
      rw [upd_other h2] at ho'
      exact h.inj _ _ b ho ho'
  · by_cases h1 : l = H.nx
    · subst h1
      rw [upd_same] at ho
      have := ho.2; omega
    · rw [upd_other h1] at ho
      exact hout l ho
end Can
end Go.Proofs.Ytmpojphjongdcaa
