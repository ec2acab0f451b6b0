/- Canonical runs: lengths, literals; reads. Over any program. -/
import Derived.Test.YtmpojphjongdcaaCanC
namespace Go.Proofs.Ytmpojphjongdcaa
namespace Can
open Go Go.RowKit
set_option linter.unusedSimpArgs false
set_option linter.unusedVariables false
variable {P : Program}

theorem run_invoke_len {ev' : Operand → Value} {o : Oper} {x : Operand} {t : TypeId} (ho : o.op = .call { callee := .builtin .len, args := #[x], argTypes := #[t] }) {v : Value} (w : World) (h : (Builtin.len_ #[t] o.type #[ev' x]).run P w = .ok v w) :
    (execOp ev' o).run P w = .ok (.value v) w := by
  simp only [execOp, ho, resolve, Sem.run_bind, Sem.run_pure, Result.andThen_ok, invoke, builtin, List.map_toArray, List.map_cons, List.map_nil, h]
theorem psound_len {t e : TypeId} {x : Operand} (ht : P.underlying t = some (.slice e)) : PSound P (.call { callee := .builtin .len, args := #[x], argTypes := #[t] }) (.len x) := fun β ev ev' o v ho hv h => by
  have hx := hv x (by simp [Op.operands, Call.operands])
  simp only [pop] at h
  split at h
  · rename_i a n c ha
    rw [ha] at hx
    cases h
    obtain ⟨a', c', hxv, _⟩ := hx.slice_inv
    refine ⟨_, fun w => run_invoke_len ho w ?_, .int _ _⟩
    simp [Builtin.len_, hxv, run_underlying ht, goInt]
  · cases h
theorem psound_lens {t : TypeId} {x : Operand} (ht : P.underlying t = some .string) : PSound P (.call { callee := .builtin .len, args := #[x], argTypes := #[t] }) (.lens x) := fun β ev ev' o v ho hv h => by
  have hx := hv x (by simp [Op.operands, Call.operands])
  simp only [pop] at h
  split at h
  · rename_i s ha
    rw [ha] at hx
    cases h
    refine ⟨_, fun w => run_invoke_len ho w ?_, .int _ _⟩
    simp [Builtin.len_, hx.string_inv, run_underlying ht, goInt]
  · cases h

/-- The bounds of a slice expression, on the other side. -/
def Bds (ev' : Operand → Value) (d : Nat) (x : Option Operand) (n : Int) : Prop := (x = none ∧ n = d) ∨ ∃ y k, x = some y ∧ ev' y = .int k n
theorem bds_of {β : Nat → Ent} {ev ev' : Operand → Value} {d d' : Nat} {x : Option Operand} {n : Int} (h : bnd ev d x = some n) (hv : ∀ y, x = some y → VR β (ev y) (ev' y)) (hd : x = none → d' = d) : Bds ev' d' x n := by
  cases x with
  | none => simp [bnd] at h; exact .inl ⟨rfl, by rw [hd rfl]; exact h.symm⟩
  | some y =>
    simp only [bnd] at h
    split at h
    · rename_i k m hy
      cases h
      have := hv y rfl
      rw [hy] at this
      exact .inr ⟨y, k, rfl, this.int_inv⟩
    · cases h
theorem run_bound {k : IntKind} {n : Int} {y : Nat} {code : BoundsCode} (h0 : 0 ≤ n) (h1 : n ≤ y) (w : World) : (Instr.sliceBound (.int k n) y code).run P w = .ok n.toNat w := by
  simp [Instr.sliceBound, asIntOf, h0, h1]
theorem run_sliceBounds {ev' : Operand → Value} {b : Bool} {len cap : Nat} {lo hi mx : Option Operand} {l h m : Int} (hl : Bds ev' 0 lo l) (hh : Bds ev' len hi h) (hm : Bds ev' cap mx m) (hmx : mx.isSome = true → hi.isSome = true)
    (h0 : 0 ≤ l) (h1 : l ≤ h) (h2 : h ≤ m) (h3 : m ≤ cap) (w : World) : (Instr.sliceBounds b len cap (lo.map ev') (hi.map ev') (mx.map ev')).run P w = .ok (l.toNat, h.toNat, m.toNat) w := by
  unfold Instr.sliceBounds
  rcases hm with ⟨rfl, rfl⟩ | ⟨ym, km, rfl, em⟩ <;> rcases hh with ⟨rfl, rfl⟩ | ⟨yh, kh, rfl, eh⟩ <;> rcases hl with ⟨rfl, rfl⟩ | ⟨yl, kl, rfl, el⟩ <;>
    simp only [Option.map_none, Option.map_some, Sem.run_bind, Sem.run_pure, Result.andThen_ok, Int.toNat_natCast, *] <;>
    first
    | rfl
    | (simp at hmx; done)
    | (repeat (first | rw [run_bound (by omega) (by omega)] | simp only [Result.andThen_ok, Sem.run_pure, Int.toNat_natCast] | rfl))
theorem psound_sstr {t : TypeId} {x : Operand} {lo hi : Option Operand} (ht : P.underlying t = some .string) : PSound P (.slice t x lo hi none) (.sstr x lo hi) := fun β ev ev' o v ho hv h => by
  have hx := hv x (by simp [Op.operands])
  simp only [pop] at h
  split at h
  · rename_i s l hh ha hl hhh
    split at h
    · rename_i hb
      rw [ha] at hx
      rw [ha] at hhh
      cases h
      have b1 := bds_of (d' := 0) hl (fun y e => hv y (by simp [Op.operands, e])) (fun _ => rfl)
      have b2 := bds_of (d' := s.size) hhh (fun y e => hv y (by simp [Op.operands, e])) (fun _ => rfl)
      refine ⟨_, fun w => ?_, .string _⟩
      have b3 : Bds ev' s.size none (s.size : Int) := .inl ⟨rfl, rfl⟩
      have hr := run_sliceBounds (P := P) (b := false) (cap := s.size) b1 b2 b3 (by simp) hb.1 hb.2.1 hb.2.2 (Int.le_refl _) w
      simp only [Option.map_none] at hr
      simp only [execOp, ho, hx.string_inv, Instr.sliceAt, Instr.slice, Sem.run_bind, run_underlying ht, Result.andThen_ok, Option.map_none, Option.isSome_none, Bool.false_eq_true, if_false, hr, Sem.run_pure]
    · cases h
  · cases h

/-- A read of memory: changes nothing. -/
theorem run_isAgg0_no {t : TypeId} {d : TypeDesc} (h : P.underlying t = some d) (hd : isAggD d = false) (w : World) : (isAgg t).run P w = .ok false w := by
  unfold isAgg
  simp only [Sem.run_bind, run_underlying h, Result.andThen_ok]
  cases d <;> first | rfl | cases hd
theorem run_isAgg0_yes {t : TypeId} {d : TypeDesc} (h : P.underlying t = some d) (hd : isAggD d = true) (w : World) : (isAgg t).run P w = .ok true w := by
  unfold isAgg
  simp only [Sem.run_bind, run_underlying h, Result.andThen_ok]
  cases d <;> first | rfl | cases hd
/-- A part, read. -/
theorem run_part {β : Nat → Ent} {cs cs' : Array Value} (hsz : cs.size = cs'.size) (hi : ∀ i (h1 : i < cs.size) (h2 : i < cs'.size), VR β cs[i] cs'[i]) {e : TypeId} {d n : Nat} {ed : TypeDesc} {g : Bool} (he : P.underlying e = some ed) (hg : isAggD ed = g)
    (hn : (P.info? e).map (·.size) = some n) {v : Value} (h : partV cs.toList d (if g then some n else none) = some v) : ∃ v', (∀ w, (part e cs' d).run P w = .ok v' w) ∧ VR β v v' := by
  cases g with
  | false =>
    simp only [Bool.false_eq_true, if_false, partV] at h
    obtain ⟨h1, h2⟩ := List.getElem?_eq_some_iff.1 h
    have hd : d < cs'.size := by have : d < cs.size := by simpa using h1
                                 omega
    refine ⟨cs'[d], fun w => ?_, ?_⟩
    · simp only [part, Sem.run_bind, run_isAgg0_no he hg, Result.andThen_ok, Bool.false_eq_true, if_false, Array.getElem?_eq_getElem hd, Sem.run_pure]
    · rw [← h2]; simpa using hi d (by simpa using h1) hd
  | true =>
    simp only [if_true, partV] at h
    split at h
    · rename_i hle
      cases h
      refine ⟨.agg (cs'.extract d (d + n)), fun w => ?_, .agg ?_ fun i h1 h2 => ?_⟩
      · simp only [part, Sem.run_bind, run_isAgg0_yes he hg, Result.andThen_ok, if_true, run_sz hn, Sem.run_pure]
      · have : d + n ≤ cs.size := by simpa using hle
        simp; omega
      · simp only [List.size_toArray, List.length_take, List.length_drop, Array.length_toList, Array.size_extract] at h1 h2
        simp only [List.getElem_toArray, List.getElem_take, List.getElem_drop, Array.getElem_toList, Array.getElem_extract]
        exact hi _ _ _
    · cases h
theorem psound_fld {s : TypeId} {x : Operand} {f n : Nat} {fs : Array Field} {fld : Field} {ed : TypeDesc} {g : Bool} (hs : P.underlying s = some (.struct fs)) (hf : fs[f]? = some fld) (he : P.underlying fld.type = some ed) (hg : isAggD ed = g)
    (hn : (P.info? fld.type).map (·.size) = some n) : PSound P (.field s x f) (.fld x fld.offset (if g then some n else none)) := fun β ev ev' o v ho hv h => by
  have hx := hv x (by simp [Op.operands])
  simp only [pop] at h
  split at h
  · rename_i cs ha
    rw [ha] at hx
    obtain ⟨bs, hxv, hsz, hi⟩ : ∃ bs, ev' x = .agg bs ∧ cs.size = bs.size ∧ ∀ i (h1 : i < cs.size) (h2 : i < bs.size), VR β cs[i] bs[i] := by
      generalize ev' x = q at hx
      cases hx with
      | agg h hi => exact ⟨_, rfl, h, hi⟩
    obtain ⟨v', h1, h2⟩ := run_part hsz hi he hg hn h
    refine ⟨v', fun w => ?_, h2⟩
    simp only [execOp, ho, Instr.field, hxv, asAgg, Sem.run_bind, run_underlying hs, Result.andThen_ok, hf, Sem.run_pure, h1]
  · cases h
theorem psound_idxv {t e : TypeId} {x i : Operand} {n sz : Nat} {ed : TypeDesc} {g : Bool} (ht : P.underlying t = some (.array n e)) (he : P.underlying e = some ed) (hg : isAggD ed = g)
    (hn : (P.info? e).map (·.size) = some sz) : PSound P (.index t x i) (.idxv x i n sz g) := fun β ev ev' o v ho hv h => by
  have hx := hv x (by simp [Op.operands])
  have hi := hv i (by simp [Op.operands])
  simp only [pop] at h
  split at h
  · rename_i cs k j ha hj
    rw [ha] at hx
    rw [hj] at hi
    split at h
    · rename_i hb
      obtain ⟨bs, hxv, hsz, hie⟩ : ∃ bs, ev' x = .agg bs ∧ cs.size = bs.size ∧ ∀ i (h1 : i < cs.size) (h2 : i < bs.size), VR β cs[i] bs[i] := by
        generalize ev' x = q at hx
        cases hx with
        | agg h hi => exact ⟨_, rfl, h, hi⟩
      obtain ⟨v', h1, h2⟩ := run_part hsz hie he hg hn h
      refine ⟨v', fun w => ?_, h2⟩
      simp only [execOp, ho, hxv, hi.int_inv, Instr.index, asIntOf, Sem.run_bind, run_underlying ht, Result.andThen_ok, Sem.run_pure, if_pos hb, run_sz hn, h1]
    · cases h
  · cases h
theorem psound_mx {b : Bool} {x y : Operand} {ts : Array TypeId} : PSound P (.call { callee := .builtin (if b then .max else .min), args := #[x, y], argTypes := ts }) (.mx b x y) := fun β ev ev' o v ho hv h => by
  have hx := hv x (by simp [Op.operands, Call.operands])
  have hy := hv y (by simp [Op.operands, Call.operands])
  simp only [pop] at h
  split at h
  · rename_i k m k' n ha hb
    rw [ha] at hx
    rw [hb] at hy
    cases h
    refine ⟨_, fun w => ?_, .int _ _⟩
    cases b <;> simp [execOp, ho, resolve, Sem.run_bind, Sem.run_pure, Result.andThen_ok, invoke, builtin, hx.int_inv, hy.int_inv, Builtin.max_, Builtin.min_, Builtin.max2, Builtin.min2]
  · cases h
inductive LOp where
  | ld (x : Operand)
  | lda (n : Nat) (x : Operand)
  | slc (e sz : Nat) (x : Operand) (lo hi mx : Option Operand)
  | b2s (x : Operand)
def okSl (H : CH) (e : TypeId) : Value → Bool
  | .slice (some ⟨l, _, none⟩) _ _ => match H.ob l with
    | .cells _ e' .ro => true
    | .cells _ e' _ => e' == e
    | _ => false
  | _ => true
def byteList : List Value → Option (List UInt8)
  | [] => some []
  | .int .u8 n :: r => (byteList r).map (UInt8.ofNat n.toNat :: ·)
  | _ :: _ => none
def lop (H : CH) (ev : Operand → Value) : LOp → Option Value
  | .ld x => match ev x with
    | .pointer (some ⟨l, o, none⟩) => match H.ob l with
      | .cells cs _ _ => cs[o]?
      | _ => none
    | _ => none
  | .lda n x => match ev x with
    | .pointer (some ⟨l, o, none⟩) => match H.ob l with
      | .cells cs _ _ => if o + n ≤ cs.length then some (.agg ((cs.drop o).take n).toArray) else none
      | _ => none
    | _ => none
  | .slc e sz x lo hi mx => match bnd ev 0 lo, bnd ev (lenV (ev x)) hi, bnd ev (capV (ev x)) mx with
    | some l, some h, some m => if okSl H e (ev x) && (mx.isNone || hi.isSome) then sliceV sz (ev x) l h m mx.isSome else none
    | _, _, _ => none
  | .b2s x => match ev x with
    | .slice none 0 0 => some (.string .empty)
    | .slice (some ⟨l, o, none⟩) n _ => match H.ob l with
      | .cells cs _ _ => if o + n ≤ cs.length then (byteList ((cs.drop o).take n)).map fun bs => .string ⟨bs.toArray⟩ else none
      | _ => none
    | .slice (some ⟨_, _, some _⟩) 0 _ => some (.string .empty)
    | _ => none
def LSound (P : Program) (op : Op) (r : LOp) : Prop :=
  ∀ (B : Nat) (β : Nat → Ent) (H : CH) (w : World) (ev ev' : Operand → Value) (o : Oper) (v : Value), o.op = op → (∀ x ∈ op.operands, VR β (ev x) (ev' x)) → Sim P B β H w → lop H ev r = some v →
    ∃ v', (execOp ev' o).run P w = .ok (.value v') w ∧ VR β v v'
theorem run_isAgg_no {t : TypeId} {d : TypeDesc} (h : P.underlying t = some d) (hd : (match d with | .struct _ | .array _ _ => true | _ => false) = false) (w : World) : (isAgg t).run P w = .ok false w := by
  simp only [isAgg, Sem.run_bind, run_underlying h, Result.andThen_ok]
  cases d <;> first | rfl | cases hd
theorem run_isAgg_yes {t : TypeId} {d : TypeDesc} (h : P.underlying t = some d) (hd : (match d with | .struct _ | .array _ _ => true | _ => false) = true) (w : World) : (isAgg t).run P w = .ok true w := by
  simp only [isAgg, Sem.run_bind, run_underlying h, Result.andThen_ok]
  cases d <;> first | rfl | cases hd
theorem lsound_ld {t : TypeId} {d : TypeDesc} {x : Operand} (h : P.underlying t = some d) (hd : (match d with | .struct _ | .array _ _ => true | _ => false) = false) : LSound P (.load t x) (.ld x) := fun B β H w ev ev' o v ho hv hS hr => by
  have hx := hv x (by simp [Op.operands])
  simp only [lop] at hr
  split at hr
  · rename_i l oo ha
    split at hr
    · rename_i cs e k hob
      rw [ha] at hx
      obtain ⟨b, hxv, hc⟩ := hS.load hx hob
      obtain ⟨u, hu, hvu⟩ := hc _ _ hr
      refine ⟨u, ?_, hvu⟩
      simp only [execOp, ho, hxv, Instr.loadAt, Instr.sureAddr, loadVar, Sem.run_bind, Sem.run_pure, Result.andThen_ok, run_isAgg_no h hd, Bool.false_eq_true, if_false]
      simp [Go.load, Sem.run, hu]
    · cases hr
  · cases hr
theorem lsound_lda {t : TypeId} {d : TypeDesc} {n : Nat} {x : Operand} (h : P.underlying t = some d) (hd : (match d with | .struct _ | .array _ _ => true | _ => false) = true) (hn : (P.info? t).map (·.size) = some n) : LSound P (.load t x) (.lda n x) := fun B β H w ev ev' o v ho hv hS hr => by
  have hx := hv x (by simp [Op.operands])
  simp only [lop] at hr
  split at hr
  · rename_i l oo ha
    split at hr
    · rename_i cs e k hob
      split at hr
      · rename_i hle
        cases hr
        rw [ha] at hx
        obtain ⟨b, sz, m, hb, hlive⟩ := hS.cells hob
        have hxv : ev' x = .pointer (some ⟨b, oo, none⟩) := by
          generalize hxv : ev' x = xv at hx
          cases hx with
          | ptr hl => rw [hb] at hl; cases hl; rfl
          | pdead a hl => rw [hb] at hl; cases hl
        obtain ⟨us, h1, h2, h3⟩ := hlive.reads oo n hle
        refine ⟨.agg us.toArray, ?_, .agg (by simp; omega) ?_⟩
        · simp only [execOp, ho, hxv, Instr.loadAt, Instr.sureAddr, loadVar, Sem.run_bind, Sem.run_pure, Result.andThen_ok, run_isAgg_yes h hd, if_true, run_sz hn]
          have := run_loadCells_list (P := P) w ⟨b, oo, none⟩ us h3
          rw [h2] at this
          simp only [this, Result.andThen_ok]
        · have := (VRs.arr (as := ((cs.drop oo).take n).toArray) (bs := us.toArray)).1 (by simpa using h1)
          exact this.2
      · cases hr
    · cases hr
  · cases hr
end Can
end Go.Proofs.Ytmpojphjongdcaa
