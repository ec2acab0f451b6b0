/- Canonical runs: writes: stores, append, copy. Over any program. -/
import Derived.Test.YtmpojphjongdcaaCanF
namespace Go.Proofs.Ytmpojphjongdcaa
namespace Can
open Go Go.RowKit
set_option linter.unusedSimpArgs false
set_option linter.unusedVariables false
variable {P : Program}

inductive WOp where
  | st (n : Nat) (x v : Operand)
  | app (e sz bytes : Nat) (s x : Operand)
  | cpy (sz : Nat) (d s : Operand)
def Kd.isRo : Kd → Bool
  | .ro => true
  | _ => false
theorem Kd.ne_ro {k : Kd} (h : k.isRo = false) : k ≠ .ro := fun e => by subst e; cases h
def Kd.isEx : Kd → Bool
  | .ex => true
  | _ => false
/-- The memory behind an append: the old row's name is given up, unless the row was full. -/
def appH (full : Bool) (H : CH) (l : Nat) (o : CObj) : CH := if full then H.new o else (H.set l .dead).new o
/-- The cells of what is appended or copied. -/
def srcCells (H : CH) (sz : Nat) : Value → Option (List Value × Nat)
  | .slice none 0 0 => some ([], 0)
  | .slice (some ⟨_, _, some _⟩) 0 0 => some ([], 0)
  | .slice (some ⟨l, o, none⟩) m _ => if m = 0 then some ([], 0) else match H.ob l with
    | .cells cs _ _ => if o + m * sz ≤ cs.length then some ((cs.drop o).take (m * sz), m) else none
    | _ => none
  | .string s => if sz = 1 then some (s.data.toList.map fun b => .int .u8 b.toNat, s.size) else none
  | _ => none
def wop (H : CH) (ev : Operand → Value) : WOp → Option (Value × CH)
  | .st n x v => match ev x with
    | .pointer (some ⟨l, o, none⟩) => match H.ob l with
      | .cells cs e k => if k.isRo = false ∧ isVal (ev v) = true ∧ (ev v).cells.size = n ∧ o + n ≤ cs.length ∧ (ev v).cells.toList.all isCell = true then some (undef, H.set l (.cells (setCells cs o (ev v).cells.toList) e k)) else none
      | _ => none
    | _ => none
  | .app e sz bytes s x => match srcCells H sz (ev x) with
    | some (xs, m) => match ev s with
      | .slice none 0 0 => if m = 0 then some (.slice none 0 0, H) else if xs.all isCell = true ∧ m * bytes ≤ 140737488355328 ∧ m ≤ maxLen then some (.slice (some ⟨H.nx, 0, none⟩) m m, H.new (.cells xs e .gr)) else none
      | .slice (some ⟨a, b, some 0⟩) 0 0 => if m = 0 then some (.slice (some ⟨a, b, some 0⟩) 0 0, H) else if xs.all isCell = true ∧ m * bytes ≤ 140737488355328 ∧ m ≤ maxLen then some (.slice (some ⟨H.nx, 0, none⟩) m m, H.new (.cells xs e .gr)) else none
      | .slice (some ⟨l, o, none⟩) n c => match H.ob l with
        | .cells cs e' k =>
          if m = 0 then some (.slice (some ⟨l, o, none⟩) n c, H)
          else if o = 0 ∧ e' = e ∧ k.isRo = false ∧ n * sz ≤ cs.length ∧ xs.all isCell = true ∧ (n + m) * bytes ≤ 140737488355328 ∧ n + m ≤ maxLen then
            some (.slice (some ⟨H.nx, 0, none⟩) (n + m) (n + m), appH (k.isEx && decide (c < n + m)) H l (.cells (cs.take (n * sz) ++ xs) e .gr))
          else none
        | _ => none
      | _ => none
    | none => none
  | .cpy sz d s => match ev d, srcCells H sz (ev s) with
    | .slice a n c, some (xs, m) => if n = 0 ∨ m = 0 then some (.int .i64 0, H) else match a with
      | some ⟨l, o, none⟩ => match H.ob l with
        | .cells cs e k => if k.isRo = false ∧ o + (min m n) * sz ≤ cs.length ∧ xs.all isCell = true then some (.int .i64 (min m n : Nat), H.set l (.cells (setCells cs o (xs.take ((min m n) * sz))) e k)) else none
        | _ => none
      | _ => none
    | _, _ => none
def WSound (P : Program) (op : Op) (r : WOp) : Prop :=
  ∀ (B : Nat) (β : Nat → Ent) (H : CH) (w : World) (ev ev' : Operand → Value) (o : Oper) (v : Value) (H' : CH), o.op = op → (∀ x ∈ op.operands, VR β (ev x) (ev' x)) → Sim P B β H w → wop H ev r = some (v, H') →
    ∃ (β' : Nat → Ent) (w' : World) (v' : Value) (n : Next), (execOp ev' o).run P w = .ok n w' ∧ (n = .value v' ∨ n = .skip ∧ v' = undef) ∧ VR β' v v' ∧ Sim P B β' H' w' ∧ Evo β w β' w'
theorem wsound_st {t n : Nat} {x v : Operand} (hz : (P.info? t).map (·.size) = some n) : WSound P (.store t x v) (.st n x v) := fun B β H w ev ev' o u H' ho hv hS hr => by
  have hx := hv x (by simp [Op.operands])
  have hu := hv v (by simp [Op.operands])
  simp only [wop] at hr
  split at hr
  · rename_i l oo ha
    split at hr
    · rename_i cs e k hob
      split at hr
      · rename_i hg
        obtain ⟨g1, g2, g3, g4, g5⟩ := hg
        cases hr
        rw [ha] at hx
        obtain ⟨b, sz, m, hb, hlive⟩ := hS.cells hob
        have hxv : ev' x = .pointer (some ⟨b, oo, none⟩) := by
          generalize hxv : ev' x = xv at hx
          cases hx with
          | ptr hl => rw [hb] at hl; cases hl; rfl
          | pdead a hl => rw [hb] at hl; cases hl
        have hc := hu.cells g2
        have hl : (ev v).cells.size = (ev' v).cells.size := by simpa using hc.1
        obtain ⟨w', hrun, hS', hE⟩ := hS.stores0 hb hob (Kd.ne_ro g1) (o := oo) (us := (ev v).cells.toList) (by simpa [g3] using g4) hc (List.all_eq_true.1 g5)
        refine ⟨β, w', undef, .skip, ?_, .inr ⟨rfl, rfl⟩, .undef _, hS', hE⟩
        simp only [execOp, ho, hxv, Instr.storeAt, Instr.sureAddr, storeVar, Sem.run_bind, Sem.run_pure, Result.andThen_ok, run_sz hz, Sem.run_ite]
        rw [if_neg (by omega)]
        simp only [hrun, Result.andThen_ok, Sem.run_pure]
      · cases hr
    · cases hr
  · cases hr
theorem src_run {B : Nat} {β : Nat → Ent} {H : CH} {w : World} (hS : Sim P B β H w) {sz : Nat} {v v' : Value} (hv : VR β v v') {xs : List Value} {m : Nat} (h : srcCells H sz v = some (xs, m)) :
    (∀ w2 : World, (Builtin.lenOf v').run P w2 = .ok m w2) ∧ xs.length = m * sz ∧ ∃ xs', VRs β xs xs' ∧ ∀ w2 : World, (∀ a, w2.cell? a = w.cell? a) → ∀ j, j ≤ m → (Builtin.firstCells sz j v').run P w2 = .ok (xs'.take (j * sz)).toArray w2 := by
  unfold srcCells at h
  split at h
  · cases h
    cases hv
    refine ⟨fun _ => rfl, by simp, [], VRs.nil β, fun w2 _ j hj => ?_⟩
    obtain rfl : j = 0 := by omega
    simp [Builtin.firstCells]
  · cases h
    cases hv <;> refine ⟨fun _ => rfl, by simp, [], VRs.nil β, fun w2 _ j hj => ?_⟩ <;> (obtain rfl : j = 0 := by omega) <;> simp [Builtin.firstCells, loadCells, loadCellsFrom]
  · rename_i l o m0 c
    split at h
    · rename_i hm0
      subst hm0
      cases h
      obtain ⟨a', c', rfl, hn⟩ := hv.slice_inv
      refine ⟨fun _ => rfl, by simp, [], VRs.nil β, fun w2 _ j hj => ?_⟩
      obtain rfl : j = 0 := by omega
      cases a' with
      | none => simp at hn
      | some a' => simp [Builtin.firstCells, loadCells, loadCellsFrom]
    · split at h
      · rename_i cs e k hob
        split at h
        · rename_i hle
          cases h
          obtain ⟨b, szb, nn, hb, hlive⟩ := hS.cells hob
          have hvv : ∃ c', v' = .slice (some ⟨b, o, none⟩) m c' := by
            cases hv with
            | sl hl _ _ _ _ _ => rw [hb] at hl; cases hl; exact ⟨_, rfl⟩
            | sdead a hl _ => rw [hb] at hl; cases hl
          obtain ⟨c', rfl⟩ := hvv
          obtain ⟨us, h1, h2, h3⟩ := hlive.reads o (m * sz) hle
          refine ⟨fun _ => rfl, by simp; omega, us, h1, fun w2 hw2 j hj => ?_⟩
          have hjl : (us.take (j * sz)).length = j * sz := by
            have : j * sz ≤ m * sz := Nat.mul_le_mul_right _ hj
            simp; omega
          refine run_firstCells_some w2 sz j ⟨b, o, none⟩ m c' (us.take (j * sz)) hjl fun i u hi => ?_
          rw [List.getElem?_take] at hi
          split at hi
          · rw [hw2]; exact h3 i u hi
          · cases hi
        · cases h
      · cases h
  · rename_i s
    split at h
    rotate_left
    · cases h
    rename_i hs1
    cases h
    subst hs1
    have := hv.string_inv
    subst this
    refine ⟨fun _ => rfl, by simp only [List.length_map, Nat.mul_one]; rfl, _, ⟨rfl, fun i v hv => ⟨v, hv, ?_⟩⟩, fun w2 _ j hj => ?_⟩
    · rw [List.getElem?_map] at hv
      cases hb : s.data.toList[i]? with
      | none => rw [hb] at hv; cases hv
      | some b => rw [hb] at hv; cases hv; exact .int _ _
    · simp only [Builtin.firstCells, Sem.run_pure, Nat.mul_one]
      congr 1
      apply Array.ext'
      simp only [Array.toList_map, ByteArray.data_extract, Array.toList_extract, List.extract_eq_take_drop, List.drop_zero, Nat.sub_zero, List.map_take]
  · cases h
theorem take_all {α : Type} {l : List α} {n : Nat} (h : l.length = n) : l.take n = l := List.take_of_length_le (by omega)
/-- Into the room behind. -/
theorem Sim.app_in {B : Nat} {β : Nat → Ent} {H : CH} {w : World} (hS : Sim P B β H w) {l b sz nn : Nat} {cs : List Value} {e : TypeId} {k : Kd} (hb : β l = .live b sz nn k) (hob : H.ob l = .cells cs e k) (hk : k ≠ .ro) {p : Nat} {xs xs' : List Value}
    (hp : p ≤ cs.length) (hroom : p + xs.length ≤ nn) (hx : VRs β xs xs') (hc : ∀ u ∈ xs, isCell u = true) :
    ∃ w', (storeCells ⟨b, p, none⟩ xs').run P w = .ok () w' ∧ Sim P B (upd (upd β l .dead) H.nx (.live b sz nn .gr)) ((H.set l .dead).new (.cells (cs.take p ++ xs) e .gr)) w' ∧ Evo β w (upd (upd β l .dead) H.nx (.live b sz nn .gr)) w' := by
  obtain ⟨cs0, e0, ho0, hlive⟩ := hS.live hb
  rw [hob] at ho0
  cases ho0
  have hlen : cs.length ≤ nn := by obtain ⟨_, _, _, _, _, g, _⟩ := hlive; exact g
  have hpad := hS.pad hb hob (p + xs.length - cs.length) (by omega)
  have hob2 : (H.set l (.cells (cs ++ List.replicate (p + xs.length - cs.length) undef) e k)).ob l = .cells (cs ++ List.replicate (p + xs.length - cs.length) undef) e k := by simp [CH.set]
  obtain ⟨w', hrun, hS', hE⟩ := hpad.stores0 hb hob2 hk (o := p) (by simp; omega) hx hc
  rw [CH.set_set] at hS'
  have hob3 : (H.set l (.cells (setCells (cs ++ List.replicate (p + xs.length - cs.length) undef) p xs) e k)).ob l = .cells (setCells (cs ++ List.replicate (p + xs.length - cs.length) undef) p xs) e k := by simp [CH.set]
  obtain ⟨hS2, hE2⟩ := hS'.rename hb hob3 hk (p + xs.length)
  refine ⟨w', hrun, ?_, hE.trans hE2⟩
  rw [CH.set_set] at hS2
  have : (setCells (cs ++ List.replicate (p + xs.length - cs.length) undef) p xs).take (p + xs.length) = cs.take p ++ xs := by
    unfold setCells
    rw [List.take_append_of_le_length hp, List.take_append_of_le_length (by simp; omega), take_all (by simp; omega)]
  rw [this] at hS2
  exact hS2
/-- Into new memory. -/
theorem Sim.app_out {B : Nat} {β : Nat → Ent} {H : CH} {w : World} (hS : Sim P B β H w) {e : TypeId} {sz : Nat} (he : (P.info? e).map (·.size) = some sz) {xs : List Value} {cs' : Array Value} (hl : xs.length ≤ cs'.size)
    (hc : ∀ (i : Nat) (v : Value), xs[i]? = some v → ∃ v', cs'[i]? = some v' ∧ VR β v v') :
    Sim P B (upd β H.nx (.live w.heap.size sz cs'.size .gr)) (H.new (.cells xs e .gr)) (w.drew.alloc (.cells cs' e)) ∧ Evo β w (upd β H.nx (.live w.heap.size sz cs'.size .gr)) (w.drew.alloc (.cells cs' e)) := by
  obtain ⟨h1, h2⟩ := hS.drew
  obtain ⟨h3, h4⟩ := h1.alloc .gr (by simp) he hl (by simp) hc (fr := (0, 0)) (fun i _ => by simp) (w' := w.drew.alloc (.cells cs' e)) rfl rfl rfl rfl
  exact ⟨h3, h2.trans h4⟩
theorem vrs_pre {β : Nat → Ent} {xs xs' : List Value} (h : VRs β xs xs') (r : Array Value) : xs.length ≤ (xs'.toArray ++ r).size ∧ ∀ (i : Nat) (v : Value), xs[i]? = some v → ∃ v', (xs'.toArray ++ r)[i]? = some v' ∧ VR β v v' := by
  refine ⟨by simp [h.1], fun i v hv => ?_⟩
  obtain ⟨v', a, b⟩ := h.2 i v hv
  have hi : i < xs'.length := (List.getElem?_eq_some_iff.1 a).1
  exact ⟨v', by rw [Array.getElem?_append_left (by simpa using hi)]; simpa using a, b⟩
theorem run_app_room {t tx ty e : TypeId} {i0 : TypeInfo} (ht : P.underlying t = some (.slice e)) (htx : P.underlying tx = some (.slice e) ∨ P.underlying tx = some .string) (hi : P.info? e = some i0)
    {a : Option Addr} {n c m : Nat} {x' : Value} {w w' : World} (hlen : ∀ w2 : World, (Builtin.lenOf x').run P w2 = .ok m w2) (hn : n + m ≤ c) {news : List Value} (hf : (Builtin.firstCells i0.size m x').run P w = .ok news.toArray w)
    (hst : match a with | none => w' = w | some a => (storeCells (a.add (n * i0.size)) news).run P w = .ok () w') :
    (Builtin.append_ #[t, tx] ty #[.slice a n c, x']).run P w = .ok (.slice a (n + m) c) w' := by
  cases a with
  | none =>
    simp only at hst
    subst hst
    rcases htx with htx | htx <;> simp [Builtin.append_, run_underlying ht, run_underlying htx, sizeOf, typeInfo, hi, hlen, hn, hf]
  | some a =>
    simp only at hst
    rcases htx with htx | htx <;> simp [Builtin.append_, run_underlying ht, run_underlying htx, sizeOf, typeInfo, hi, hlen, hn, hf, hst]
theorem run_app_grow {t tx ty e : TypeId} {i0 : TypeInfo} {z : Value} (ht : P.underlying t = some (.slice e)) (htx : P.underlying tx = some (.slice e) ∨ P.underlying tx = some .string) (hi : P.info? e = some i0) (hz : i0.zero = some z)
    {a : Option Addr} {n c m : Nat} {x' : Value} {w : World} (hlen : ∀ w2 : World, (Builtin.lenOf x').run P w2 = .ok m w2) (hn : c < n + m) {olds news : List Value} (hs : (Builtin.firstCells i0.size n (.slice a n c)).run P w.drew = .ok olds.toArray w.drew)
    (hf : (Builtin.firstCells i0.size m x').run P w.drew = .ok news.toArray w.drew) (h63 : n + m ≤ 9223372036854775807) (hfit : Builtin.nextslicecap (n + m) c * i0.bytes ≤ 281474976710656) :
    (Builtin.append_ #[t, tx] ty #[.slice a n c, x']).run P w = .ok (.slice (some ⟨w.heap.size, 0, none⟩) (n + m) (grownCap w (n + m) c e))
      (w.drew.alloc (.cells (olds.toArray ++ news.toArray ++ Builtin.zeroCells z.cells (grownCap w (n + m) c e - (n + m))) e)) := by
  have hn' : ¬ (n + m ≤ c) := by omega
  have h63' : ¬ (9223372036854775807 < ((n : Int) + (m : Int))) := by omega
  have h48' : ¬ (281474976710656 < Builtin.nextslicecap (n + m) c * i0.bytes) := by omega
  rcases htx with htx | htx <;> simp [Builtin.append_, run_underlying ht, run_underlying htx, sizeOf, typeInfo, zeroValue, hi, hz, hlen, hn', h63', h48', Question.forced, hs, hf, newRow, grownCap] <;> (congr 2; apply Array.ext'; simp [List.append_assoc])
theorem grownCap_bounds (w : World) (need old : Nat) (e : TypeId) (h : need ≤ 9223372036854775807) : need ≤ grownCap w need old e ∧ grownCap w need old e ≤ maxLen := by
  have := Nat.mod_lt (w.tape w.drawn (.appendCap need old e)) (show 0 < 2 ^ 63 - need by omega)
  show need ≤ need + w.tape w.drawn (.appendCap need old e) % (2 ^ 63 - need) ∧ need + w.tape w.drawn (.appendCap need old e) % (2 ^ 63 - need) ≤ 9223372036854775807
  constructor <;> omega
theorem wsound_app {t tx e sz bytes : TypeId} {z : Value} {s x : Operand} (ht : P.underlying t = some (.slice e)) (htx : P.underlying tx = some (.slice e) ∨ P.underlying tx = some .string) (hi : (P.info? e).map (fun i => (i.zero, i.size, i.bytes)) = some (some z, sz, bytes)) (hzs : z.cells.size = sz) (h0 : 0 < sz) :
    WSound P (.call { callee := .builtin .append, args := #[s, x], argTypes := #[t, tx] }) (.app e sz bytes s x) := fun B β H w ev ev' o v H' ho hv hS hr => by
  have hs := hv s (by simp [Op.operands, Call.operands])
  have hx := hv x (by simp [Op.operands, Call.operands])
  obtain ⟨i0, hinf, hz0, hz1, hz2⟩ := info_parts hi
  have hsize : (P.info? e).map (·.size) = some sz := by simp [hinf, hz1]
  have hexec : ∀ (u : Value) (w' : World), (Builtin.append_ #[t, tx] o.type #[ev' s, ev' x]).run P w = .ok u w' → (execOp ev' o).run P w = .ok (.value u) w' := fun u w' h => by
    simp only [execOp, ho, resolve, Sem.run_bind, Sem.run_pure, Result.andThen_ok, invoke, builtin, List.map_toArray, List.map_cons, List.map_nil, h]
  simp only [wop] at hr
  split at hr
  rotate_left
  · cases hr
  rename_i xs m hsrc
  obtain ⟨hlen, hxl, xs', hxr, hfc⟩ := src_run hS hx hsrc
  have hfull : ∀ w2 : World, (∀ a, w2.cell? a = w.cell? a) → (Builtin.firstCells sz m (ev' x)).run P w2 = .ok xs'.toArray w2 := fun w2 h2 => by
    have := hfc w2 h2 m (Nat.le_refl _)
    rwa [take_all (by rw [← hxr.1, hxl])] at this
  -- nothing known of the old row is needed
  have fresh : ∀ (a' : Option Addr), ev' s = .slice a' 0 0 → m ≠ 0 → xs.all isCell = true → m * bytes ≤ 140737488355328 → m ≤ maxLen →
      ∃ (β' : Nat → Ent) (w' : World) (v' : Value), (Builtin.append_ #[t, tx] o.type #[ev' s, ev' x]).run P w = .ok v' w' ∧ VR β' (.slice (some ⟨H.nx, 0, none⟩) m m) v' ∧ Sim P B β' (H.new (.cells xs e .gr)) w' ∧ Evo β w β' w' := by
    intro a' hs' hm0 hall hby hmx
    have hmx' : m ≤ 9223372036854775807 := hmx
    have h0f : (Builtin.firstCells i0.size 0 (.slice a' 0 0)).run P w.drew = .ok ([] : List Value).toArray w.drew := by
      cases a' <;> simp [Builtin.firstCells, loadCells, loadCellsFrom]
    have hrun := run_app_grow (P := P) (ty := o.type) ht htx hinf hz0 (a := a') (n := 0) (c := 0) hlen (by omega) h0f (by rw [hz1]; exact hfull w.drew (fun _ => rfl)) (by omega) (by rw [hz2]; exact growslice_fits (by omega) (by simpa using hby))
    rw [hs']
    simp only [Nat.zero_add] at hrun
    obtain ⟨g1, g2⟩ := grownCap_bounds w m 0 e hmx'
    obtain ⟨q1, q2⟩ := vrs_pre hxr (Builtin.zeroCells z.cells (grownCap w m 0 e - m))
    have heq : ([] : List Value).toArray ++ xs'.toArray ++ Builtin.zeroCells z.cells (grownCap w m 0 e - m) = xs'.toArray ++ Builtin.zeroCells z.cells (grownCap w m 0 e - m) := by simp
    rw [heq] at hrun
    obtain ⟨hS', hE'⟩ := hS.app_out hsize q1 q2
    refine ⟨_, _, _, hrun, ?_, hS', hE'⟩
    refine .sl upd_same (Nat.le_refl _) g1 g2 (fun _ => ?_) (fun g => absurd rfl g)
    have hxl' : xs'.length = m * sz := by rw [← hxr.1, hxl]
    simp only [Array.size_append, List.size_toArray, size_zeroCells, hxl', hzs]
    rw [← Nat.add_mul]
    simp; exact Nat.mul_le_mul_right _ (by omega)
  have empty : ∀ (a' : Option Addr) (n c' : Nat), ev' s = .slice a' n c' → n ≤ c' → m = 0 → (Builtin.append_ #[t, tx] o.type #[ev' s, ev' x]).run P w = .ok (ev' s) w := by
    intro a' n c' hs' hnc hm0
    subst hm0
    have hx0 : xs' = [] := List.length_eq_zero_iff.1 (by rw [← hxr.1, hxl]; simp)
    have := run_app_room (P := P) (ty := o.type) (w' := w) ht htx hinf (a := a') (n := n) (c := c') (m := 0) (x' := ev' x) hlen (by omega) (news := []) (by rw [hz1]; have := hfull w (fun _ => rfl); rwa [hx0] at this) (by cases a' <;> first | rfl | (simp [storeCells]))
    rw [hs']
    simpa using this
  split at hr
  · rename_i hes
    rw [hes] at hs
    have hs' : ev' s = .slice none 0 0 := by generalize ev' s = q at hs; cases hs; rfl
    split at hr
    · rename_i hm0
      cases hr
      exact ⟨β, w, _, _, hexec _ _ (empty _ _ _ hs' (Nat.le_refl _) hm0), .inl rfl, hs, hS, Evo.refl β w⟩
    · rename_i hm0
      split at hr
      · rename_i g
        cases hr
        obtain ⟨β', w', v', a, b, c, d⟩ := fresh _ hs' hm0 g.1 g.2.1 g.2.2
        exact ⟨β', w', v', _, hexec _ _ a, .inl rfl, b, c, d⟩
      · cases hr
  · rename_i aa bb hes
    rw [hes] at hs
    obtain ⟨a', hs'⟩ : ∃ a', ev' s = .slice a' 0 0 := by generalize ev' s = q at hs; cases hs; exact ⟨_, rfl⟩
    split at hr
    · rename_i hm0
      cases hr
      exact ⟨β, w, _, _, hexec _ _ (empty _ _ _ hs' (Nat.le_refl _) hm0), .inl rfl, hs, hS, Evo.refl β w⟩
    · rename_i hm0
      split at hr
      · rename_i g
        cases hr
        obtain ⟨β', w', v', a, b, c, d⟩ := fresh _ hs' hm0 g.1 g.2.1 g.2.2
        exact ⟨β', w', v', _, hexec _ _ a, .inl rfl, b, c, d⟩
      · cases hr
  · rename_i l oo n c hes
    rw [hes] at hs
    split at hr
    · rename_i cs e' k hob
      obtain ⟨b, szb, nn, hb, hlive⟩ := hS.cells hob
      obtain ⟨c', hs', q1, q2, q3, q4, q5⟩ : ∃ c', ev' s = .slice (some ⟨b, oo, none⟩) n c' ∧ n ≤ c' ∧ c' ≤ maxLen ∧ (k ≠ .ro → oo + c' * szb ≤ nn) ∧ c ≤ c' ∧ (k ≠ .gr → c' = c) := by
        generalize ev' s = q at hs
        cases hs with
        | sl hl h1 h2 h3 h4 h5 => rw [hb] at hl; cases hl; exact ⟨_, rfl, by omega, h3, h4, h2, h5⟩
        | sdead a hl _ => rw [hb] at hl; cases hl
      split at hr
      · rename_i hm0
        cases hr
        exact ⟨β, w, _, _, hexec _ _ (empty _ _ _ hs' q1 hm0), .inl rfl, hs, hS, Evo.refl β w⟩
      · rename_i hm0
        split at hr
        · rename_i g
          obtain ⟨g0, g1, g2, g3, g4, g5, g6⟩ := g
          cases hr
          subst g0 g1
          have hkro := Kd.ne_ro g2
          have hszb : szb = sz := by
            obtain ⟨_, _, _, _, _, _, _, q, _⟩ := hlive
            have q := q hkro
            rw [hsize] at q; exact (Option.some.inj q).symm
          subst hszb
          have q3' := q3 hkro
          simp only [Nat.zero_add] at q3'
          have hall := List.all_eq_true.1 g4
          by_cases hroom : n + m ≤ c'
          · have hflag : (k.isEx && decide (c < n + m)) = false := by
              cases k with
              | ex => have := q5 (by simp); simp [Kd.isEx]; omega
              | _ => rfl
            have hle : (n + m) * szb ≤ c' * szb := Nat.mul_le_mul_right _ hroom
            simp only [appH, hflag, Bool.false_eq_true, if_false]
            rw [Nat.add_mul] at hle
            obtain ⟨w', hst, hS', hE'⟩ := hS.app_in hb hob hkro g3 (by omega) hxr hall
            have hrun := run_app_room (P := P) (ty := o.type) (w := w) (w' := w') ht htx hinf (a := some ⟨b, 0, none⟩) (n := n) (c := c') (m := m) (x' := ev' x) hlen hroom (news := xs') (by rw [hz1]; exact hfull w (fun _ => rfl)) (by simp only [Addr.add_lit, Nat.zero_add, hz1]; exact hst)
            refine ⟨_, w', _, _, hexec _ _ (by rw [hs']; exact hrun), .inl rfl, ?_, hS', hE'⟩
            exact .sl upd_same (Nat.le_refl _) hroom q2 (fun _ => by simpa using q3') (fun g => absurd rfl g)
          · obtain ⟨us, u1, u2, u3⟩ := hlive.reads 0 (n * szb) (by simpa using g3)
            simp only [List.drop_zero] at u1
            have hfo := run_firstCells_some (P := P) w.drew i0.size n ⟨b, 0, none⟩ n c' us (by rw [hz1]; exact u2) (by simpa using u3)
            have hrun := run_app_grow (P := P) (ty := o.type) (w := w) ht htx hinf hz0 (a := some ⟨b, 0, none⟩) (n := n) (c := c') (m := m) (x' := ev' x) hlen (by omega) hfo (by rw [hz1]; exact hfull w.drew (fun _ => rfl)) g6 (by rw [hz2]; exact growslice_fits (by omega) g5)
            have hall2 : VRs β (cs.take (n * szb) ++ xs) (us ++ xs') := u1.append hxr
            obtain ⟨p1, p2⟩ := vrs_pre hall2 (Builtin.zeroCells z.cells (grownCap w (n + m) c' e' - (n + m)))
            have heq : (us ++ xs').toArray ++ Builtin.zeroCells z.cells (grownCap w (n + m) c' e' - (n + m)) = us.toArray ++ xs'.toArray ++ Builtin.zeroCells z.cells (grownCap w (n + m) c' e' - (n + m)) := by simp
            obtain ⟨hS', hE'⟩ := hS.app_out hsize p1 p2
            rw [heq] at hS' hE'
            have hne : l ≠ H.nx := fun e => by rw [e, hS.nx _ (Nat.le_refl _)] at hob; cases hob
            have hb2 : upd β H.nx (Ent.live w.heap.size szb (us.toArray ++ xs'.toArray ++ Builtin.zeroCells z.cells (grownCap w (n + m) c' e' - (n + m))).size .gr) l = .live b szb nn k := by rw [upd_other hne]; exact hb
            obtain ⟨hS2, hE2⟩ := hS'.kill hb2
            obtain ⟨r1, r2⟩ := grownCap_bounds w (n + m) c' e' g6
            have hcomm : (H.new (.cells (cs.take (n * szb) ++ xs) e' .gr)).set l .dead = (H.set l .dead).new (.cells (cs.take (n * szb) ++ xs) e' .gr) := by
              unfold CH.set CH.new
              simp only [CH.mk.injEq, true_and]
              funext k
              by_cases e1 : k = l
              · subst e1; simp [hne]
              · simp [e1]
            rw [hcomm] at hS2
            have hlast : 0 + grownCap w (n + m) c' e' * szb ≤ (us.toArray ++ xs'.toArray ++ Builtin.zeroCells z.cells (grownCap w (n + m) c' e' - (n + m))).size := by
              have hxl' : xs'.length = m * szb := by rw [← hxr.1, hxl]
              have hul : us.length = n * szb := u2
              simp only [Array.size_append, List.size_toArray, size_zeroCells, hxl', hul, hzs]
              rw [← Nat.add_mul, ← Nat.add_mul]
              simp; exact Nat.mul_le_mul_right _ (by omega)
            cases hflag : (k.isEx && decide (c < n + m)) with
            | false =>
              simp only [appH, Bool.false_eq_true, if_false]
              refine ⟨_, _, _, _, hexec _ _ (by rw [hs']; exact hrun), .inl rfl, ?_, hS2, hE'.trans hE2⟩
              exact .sl (b := w.heap.size) (by rw [upd_other hne.symm]; exact upd_same) (Nat.le_refl _) r1 r2 (fun _ => hlast) (fun g => absurd rfl g)
            | true =>
              simp only [appH, if_true]
              refine ⟨_, _, _, _, hexec _ _ (by rw [hs']; exact hrun), .inl rfl, ?_, hS', hE'⟩
              exact .sl (b := w.heap.size) upd_same (Nat.le_refl _) r1 r2 (fun _ => hlast) (fun g => absurd rfl g)
        · cases hr
    · cases hr
  · cases hr
theorem VRs.take {β : Nat → Ent} {cs cs' : List Value} (h : VRs β cs cs') (n : Nat) : VRs β (cs.take n) (cs'.take n) :=
  ⟨by simp [h.1], fun i v hv => by
    rw [List.getElem?_take] at hv ⊢
    split at hv
    · obtain ⟨v', a, b⟩ := h.2 i v hv; exact ⟨v', by simp [*], b⟩
    · cases hv⟩
theorem wsound_cpy {t tx e sz : TypeId} {d s : Operand} (ht : P.underlying t = some (.slice e)) (hz : (P.info? e).map (·.size) = some sz) :
    WSound P (.call { callee := .builtin .copy, args := #[d, s], argTypes := #[t, tx] }) (.cpy sz d s) := fun B β H w ev ev' o v H' ho hv hS hr => by
  have hd := hv d (by simp [Op.operands, Call.operands])
  have hs := hv s (by simp [Op.operands, Call.operands])
  have hexec : ∀ (u : Value) (w' : World), (Builtin.copy_ #[t, tx] o.type #[ev' d, ev' s]).run P w = .ok u w' → (execOp ev' o).run P w = .ok (.value u) w' := fun u w' h => by
    simp only [execOp, ho, resolve, Sem.run_bind, Sem.run_pure, Result.andThen_ok, invoke, builtin, List.map_toArray, List.map_cons, List.map_nil, h]
  simp only [wop] at hr
  split at hr
  rotate_left
  · cases hr
  rename_i a n c xs m hed hsrc
  obtain ⟨hlen, hxl, xs', hxr, hfc⟩ := src_run hS hs hsrc
  rw [hed] at hd
  obtain ⟨a', c', hd', hnn⟩ := hd.slice_inv
  have run : ∀ w', (match a' with | none => w' = w | some a' => (storeCells a' (xs'.take (min m n * sz))).run P w = .ok () w') → (Builtin.copy_ #[t, tx] o.type #[ev' d, ev' s]).run P w = .ok (.int .i64 (min m n : Nat)) w' := by
    intro w' hst
    have hf := hfc w (fun _ => rfl) (min m n) (Nat.min_le_left _ _)
    rw [hd']
    cases a' with
    | none =>
      simp only at hst
      subst hst
      simp [Builtin.copy_, run_underlying ht, hlen, run_sz hz, goInt, hf]
    | some a' =>
      simp only at hst
      simp [Builtin.copy_, run_underlying ht, hlen, run_sz hz, goInt, hf, hst]
  split at hr
  · rename_i h0
    cases hr
    have hmin : min m n = 0 := by omega
    have := run w (by cases a' <;> simp [hmin, storeCells])
    rw [hmin] at this
    exact ⟨β, w, _, _, hexec _ _ this, .inl rfl, .int _ _, hS, Evo.refl β w⟩
  · rename_i h0
    split at hr
    · rename_i l oo
      split at hr
      · rename_i cs e' k hob
        split at hr
        · rename_i g
          obtain ⟨g1, g2, g3⟩ := g
          cases hr
          obtain ⟨b, szb, nn, hb, hlive⟩ := hS.cells hob
          have ha' : a' = some ⟨b, oo, none⟩ := by
            rw [hd'] at hd
            cases hd with
            | sl hl _ _ _ _ _ => rw [hb] at hl; cases hl; rfl
            | sdead a hl _ => rw [hb] at hl; cases hl
          subst ha'
          have hlx : (xs.take (min m n * sz)).length = min m n * sz := by
            have : min m n * sz ≤ m * sz := Nat.mul_le_mul_right _ (Nat.min_le_left _ _)
            simp; omega
          obtain ⟨w', hst, hS', hE'⟩ := hS.stores0 hb hob (Kd.ne_ro g1) (o := oo) (us := xs.take (min m n * sz)) (by rw [hlx]; exact g2) (hxr.take _) (fun u hu => List.all_eq_true.1 g3 u (List.mem_of_mem_take hu))
          exact ⟨β, w', _, _, hexec _ _ (run w' hst), .inl rfl, .int _ _, hS', hE'⟩
        · cases hr
      · cases hr
    · cases hr
end Can
end Go.Proofs.Ytmpojphjongdcaa
