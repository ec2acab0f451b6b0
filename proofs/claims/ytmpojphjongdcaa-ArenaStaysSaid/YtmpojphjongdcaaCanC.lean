/- Canonical runs: operations that touch no memory. Over any program. -/
import Derived.Test.YtmpojphjongdcaaCanB
namespace Go.Proofs.Ytmpojphjongdcaa
namespace Can
open Go Go.RowKit
set_option linter.unusedSimpArgs false
set_option linter.unusedVariables false

def svOf : Sem Value → Option Value
  | .pure v => some v
  | _ => none
theorem svOf_run {P : Program} {s : Sem Value} {v : Value} (h : svOf s = some v) (w : World) : s.run P w = .ok v w := by
  cases s <;> simp [svOf] at h
  subst h; rfl
/-- An operation on values alone. -/
inductive POp where
  | mov (x : Operand)
  | pick (c a b : Operand)
  | bin (op : BinOp) (x y : Operand)
  | eqb (neg : Bool) (x y : Operand)
  | eqp (neg : Bool) (x y : Operand)
  | eqs (neg : Bool) (x y : Operand)
  | un (op : UnOp) (x : Operand)
  | conv (k : IntKind) (x : Operand)
  | cstr (x : Operand)
  | off (x : Operand) (d : Nat)
  | idx (x i : Operand) (sz : Nat)
  | idxp (x i : Operand) (n sz : Nat)
  | sidx (x i : Operand)
  | ext (x : Operand) (i : Nat)
  | len (x : Operand)
  | lens (x : Operand)
  | sstr (x : Operand) (lo hi : Option Operand)
  | fn (f : FuncId) (caps : List Operand)
  | nck (x : Operand)
  | bld (z : List Value) (ps : List (Nat × Nat × Operand))
  | fld (x : Operand) (d : Nat) (n : Option Nat)
  | idxv (x i : Operand) (n sz : Nat) (g : Bool)
  | mx (b : Bool) (x y : Operand)
/-- A bound of a slice expression. -/
def bnd (ev : Operand → Value) (d : Nat) : Option Operand → Option Int
  | none => some d
  | some x => match ev x with
    | .int _ n => some n
    | _ => none
def sliceV (sz : Nat) (v : Value) (lo hi mx : Int) (full : Bool) : Option Value :=
  match v with
  | .slice none 0 0 => if lo = 0 ∧ hi = 0 ∧ mx = 0 then some (.slice none 0 0) else none
  | .slice (some ⟨l, o, none⟩) n c =>
    if 0 ≤ lo ∧ lo ≤ hi ∧ hi ≤ mx ∧ mx ≤ c then
      if lo = mx then (if full then some (.slice (some ⟨0, 0, some 0⟩) 0 0) else if lo = 0 then some (.slice (some ⟨l, o, none⟩) 0 0) else some (.slice (some ⟨0, 0, some 1⟩) 0 0))
      else some (.slice (some ⟨l, o + lo.toNat * sz, none⟩) (hi - lo).toNat (mx - lo).toNat)
    else none
  | .slice (some ⟨_, _, some k⟩) 0 0 => if lo = 0 ∧ hi = 0 ∧ mx = 0 then some (.slice (some ⟨0, 0, some k⟩) 0 0) else none
  | _ => none
def capV : Value → Nat
  | .slice _ _ c => c
  | _ => 0
def lenV : Value → Nat
  | .slice _ n _ => n
  | .string s => s.size
  | _ => 0
def bldV : List Value → List (Nat × Nat × Value) → Option (List Value)
  | z, [] => some z
  | z, (o, s, v) :: r => if isVal v = true ∧ v.cells.size = s ∧ o + s ≤ z.length then bldV (setCells z o v.cells.toList) r else none
def isAggD : TypeDesc → Bool
  | .struct _ | .array _ _ => true
  | _ => false
/-- A part of a struct or an array: one cell, or so many. -/
def partV (cs : List Value) (d : Nat) : Option Nat → Option Value
  | none => cs[d]?
  | some n => if d + n ≤ cs.length then some (.agg ((cs.drop d).take n).toArray) else none
def pop (ev : Operand → Value) : POp → Option Value
  | .mov x => some (ev x)
  | .pick c a b => match ev c with
    | .bool t => some (if t then ev a else ev b)
    | _ => none
  | .bin op x y => match ev x, ev y with
    | .int k a, .int k' b => svOf (binOp op 0 (.int k a) (.int k' b))
    | .string a, .string b => svOf (binOp op 0 (.string a) (.string b))
    | _, _ => none
  | .eqb neg x y => match ev x, ev y with
    | .bool a, .bool b => some (.bool (neg ^^ (a == b)))
    | _, _ => none
  | .eqp neg x y => match ev x, ev y with
    | .pointer a, .pointer none => some (.bool (neg ^^ a.isNone))
    | .pointer none, .pointer b => some (.bool (neg ^^ b.isNone))
    | _, _ => none
  | .eqs neg x y => match ev x, ev y with
    | .slice a _ _, .slice none _ _ => some (.bool (neg ^^ a.isNone))
    | .slice none _ _, .slice b _ _ => some (.bool (neg ^^ b.isNone))
    | _, _ => none
  | .un op x => match ev x with
    | .int k n => svOf (Op.unary op (.int k n))
    | .bool b => svOf (Op.unary op (.bool b))
    | _ => none
  | .conv k x => match ev x with
    | .int _ n => some (.int k (k.wrap n))
    | _ => none
  | .cstr x => match ev x with
    | .string s => some (.string s)
    | _ => none
  | .off x d => match ev x with
    | .pointer (some ⟨l, o, none⟩) => some (.pointer (some ⟨l, o + d, none⟩))
    | _ => none
  | .idx x i sz => match ev x, ev i with
    | .slice (some ⟨l, o, none⟩) n _, .int _ j => if 0 ≤ j ∧ j < n then some (.pointer (some ⟨l, o + j.toNat * sz, none⟩)) else none
    | _, _ => none
  | .idxp x i n sz => match ev x, ev i with
    | .pointer (some ⟨l, o, none⟩), .int _ j => if 0 ≤ j ∧ j < n then some (.pointer (some ⟨l, o + j.toNat * sz, none⟩)) else none
    | _, _ => none
  | .sidx x i => match ev x, ev i with
    | .string s, .int _ j => if 0 ≤ j then (s[j.toNat]?).map fun b => .int .u8 b.toNat else none
    | _, _ => none
  | .ext x i => match ev x with
    | .tuple vs => vs[i]?
    | _ => none
  | .len x => match ev x with
    | .slice _ n _ => some (.int .i64 n)
    | _ => none
  | .lens x => match ev x with
    | .string s => some (.int .i64 s.size)
    | _ => none
  | .sstr x lo hi => match ev x, bnd ev 0 lo, bnd ev (lenV (ev x)) hi with
    | .string s, some l, some h => if 0 ≤ l ∧ l ≤ h ∧ h ≤ s.size then some (.string (s.extract l.toNat h.toNat)) else none
    | _, _, _ => none
  | .fn f caps => some (.func (.func f) #[] (caps.map ev).toArray)
  | .nck x => match ev x with
    | .pointer (some a) => some (.pointer (some a))
    | _ => none
  | .bld z ps => (bldV z (ps.map fun (o, s, x) => (o, s, ev x))).map fun cs => .agg cs.toArray
  | .fld x d n => match ev x with
    | .agg cs => partV cs.toList d n
    | _ => none
  | .idxv x i n sz g => match ev x, ev i with
    | .agg cs, .int _ j => if 0 ≤ j ∧ j < n then partV cs.toList (j.toNat * sz) (if g then some sz else none) else none
    | _, _ => none
  | .mx b x y => match ev x, ev y with
    | .int k m, .int _ n => some (.int k (if b then (if n > m then n else m) else (if n < m then n else m)))
    | _, _ => none

/-- What 'r' stands for: the operation, on whatever related operands, does it. -/
def PSound (P : Program) (op : Op) (p : POp) : Prop :=
  ∀ (β : Nat → Ent) (ev ev' : Operand → Value) (o : Oper) (v : Value), o.op = op → (∀ x ∈ op.operands, VR β (ev x) (ev' x)) → pop ev p = some v →
    ∃ v', (∀ w, (execOp ev' o).run P w = .ok (.value v') w) ∧ VR β v v'

theorem psound_move {P : Program} {x : Operand} : PSound P (.move x) (.mov x) := fun β ev ev' o v ho hv h => by
  simp only [pop, Option.some.injEq] at h; subst h
  exact ⟨ev' x, fun w => by simp only [execOp, ho]; rfl, hv x (by simp [Op.operands])⟩
theorem psound_assign {P : Program} {x : Operand} : PSound P (.assign x) (.mov x) := fun β ev ev' o v ho hv h => by
  simp only [pop, Option.some.injEq] at h; subst h
  exact ⟨ev' x, fun w => by simp only [execOp, ho]; rfl, hv x (by simp [Op.operands])⟩
theorem psound_pick {P : Program} {c a b : Operand} : PSound P (.pick c a b) (.pick c a b) := fun β ev ev' o v ho hv h => by
  have hc := hv c (by simp [Op.operands])
  have ha := hv a (by simp [Op.operands])
  have hb := hv b (by simp [Op.operands])
  simp only [pop] at h
  split at h
  · rename_i t ht
    rw [ht] at hc
    cases hcv : ev' c <;> rw [hcv] at hc <;> cases hc
    cases h
    cases t
    · exact ⟨ev' b, fun w => by simp [execOp, ho, hcv, asBool], hb⟩
    · exact ⟨ev' a, fun w => by simp [execOp, ho, hcv, asBool], ha⟩
  · cases h
theorem VR.int_inv {β : Nat → Ent} {k : IntKind} {n : Int} {v' : Value} (h : VR β (.int k n) v') : v' = .int k n := by cases h; rfl
theorem VR.string_inv {β : Nat → Ent} {s : ByteArray} {v' : Value} (h : VR β (.string s) v') : v' = .string s := by cases h; rfl
theorem VR.bool_inv {β : Nat → Ent} {b : Bool} {v' : Value} (h : VR β (.bool b) v') : v' = .bool b := by cases h; rfl
theorem binOp_int (op : BinOp) (t : TypeId) (k k' : IntKind) (a b : Int) : binOp op t (.int k a) (.int k' b) = binOp op 0 (.int k a) (.int k' b) := by cases op <;> rfl
theorem binOp_string (op : BinOp) (t : TypeId) (a b : ByteArray) : binOp op t (.string a) (.string b) = binOp op 0 (.string a) (.string b) := by cases op <;> rfl
theorem svOf_sv {s : Sem Value} {v : Value} (h : svOf s = some v) : s = .pure v := by
  cases s <;> simp [svOf] at h
  subst h; rfl
theorem svOf_val {op : BinOp} {x y v : Value} (hx : (∃ k a k' b, x = .int k a ∧ y = .int k' b) ∨ ∃ a b, x = .string a ∧ y = .string b) (h : svOf (binOp op 0 x y) = some v) : ∀ β, VR β v v := by
  intro β
  rcases hx with ⟨k, a, k', b, rfl, rfl⟩ | ⟨a, b, rfl, rfl⟩
  · have key : ∀ s : Sem Value, svOf s = some v → (s = Op.shift op k a k' b ∨ s = Op.intArith op k a b ∨ s = Op.intDiv op k a b ∨ s = Op.intBits op k a b ∨ s = Op.intCmp op a b) → VR β v v := by
      intro s hs hc
      rcases hc with rfl | rfl | rfl | rfl | rfl
      · unfold Op.shift at hs
        split at hs
        · cases hs
        · cases op <;> simp [svOf, Pure.pure, stuck] at hs <;> subst hs <;> exact .int _ _
      · unfold Op.intArith at hs
        cases op <;> simp [svOf, Pure.pure, stuck] at hs <;> subst hs <;> exact .int _ _
      · unfold Op.intDiv at hs
        split at hs
        · cases hs
        · cases op <;> simp [svOf, Pure.pure, stuck] at hs <;> subst hs <;> exact .int _ _
      · unfold Op.intBits at hs
        cases op <;> simp [svOf, Pure.pure, stuck] at hs <;> subst hs <;> exact .int _ _
      · unfold Op.intCmp at hs
        cases op <;> simp [svOf, Pure.pure, stuck] at hs <;> subst hs <;> exact .bool _
    by_cases hk : k = k'
    · subst hk
      refine key _ h ?_
      cases op <;> simp [binOp]
    · cases op <;> simp [binOp, hk, svOf, stuck] at h <;> (refine key _ h ?_; simp)
  · have h' : svOf (Op.stringOp op a b) = some v := by cases op <;> exact h
    unfold Op.stringOp at h'
    cases op <;> simp [svOf, Pure.pure, stuck] at h'
    case add =>
      split at h'
      · rename_i heq
        split at heq
        · cases heq
        · cases heq; cases h'; exact .string _
      · cases h'
    all_goals (subst h'; exact .bool _)
theorem psound_bin {P : Program} {op : BinOp} {t u : TypeId} {x y : Operand} : PSound P (.binOp op t x y u) (.bin op x y) := fun β ev ev' o v ho hv h => by
  have hx := hv x (by simp [Op.operands])
  have hy := hv y (by simp [Op.operands])
  simp only [pop] at h
  split at h
  · rename_i k a k' b ha hb
    rw [ha] at hx; rw [hb] at hy
    have ex := hx.int_inv
    have ey := hy.int_inv
    refine ⟨v, fun w => ?_, svOf_val (.inl ⟨_, _, _, _, rfl, rfl⟩) h β⟩
    have hrun := svOf_run (P := P) h w
    simp only [execOp, ho, ex, ey, Sem.run_bind]
    have hg : (eqGuard op t x y (.int k a) (.int k' b)).run P w = .ok () w := by
      unfold eqGuard; cases op <;> rfl
    rw [hg, binOp_int]
    simp only [Result.andThen_ok, hrun, Sem.run_pure]
  · rename_i a b ha hb
    rw [ha] at hx; rw [hb] at hy
    have ex := hx.string_inv
    have ey := hy.string_inv
    refine ⟨v, fun w => ?_, svOf_val (.inr ⟨_, _, rfl, rfl⟩) h β⟩
    have hrun := svOf_run (P := P) h w
    simp only [execOp, ho, ex, ey, Sem.run_bind]
    have hg : (eqGuard op t x y (.string a) (.string b)).run P w = .ok () w := by
      unfold eqGuard; cases op <;> rfl
    rw [hg, binOp_string]
    simp only [Result.andThen_ok, hrun, Sem.run_pure]
  · cases h
theorem psound_un {P : Program} {op : UnOp} {t : TypeId} {x : Operand} : PSound P (.unOp op t x) (.un op x) := fun β ev ev' o v ho hv h => by
  have hx := hv x (by simp [Op.operands])
  simp only [pop] at h
  split at h
  · rename_i k n ha
    rw [ha] at hx
    have ex := hx.int_inv
    have hrun := fun w => svOf_run (P := P) h w
    refine ⟨v, fun w => by simp only [execOp, ho, ex, Sem.run_bind, hrun, Result.andThen_ok, Sem.run_pure], ?_⟩
    have hs := svOf_sv h
    cases op <;> simp [Op.unary, Op.intArith, Op.intBits, stuck, Pure.pure] at hs <;> (try subst hs) <;> first | exact .int _ _ | cases hs
  · rename_i b ha
    rw [ha] at hx
    have ex := hx.bool_inv
    have hrun := fun w => svOf_run (P := P) h w
    refine ⟨v, fun w => by simp only [execOp, ho, ex, Sem.run_bind, hrun, Result.andThen_ok, Sem.run_pure], ?_⟩
    have hs := svOf_sv h
    cases op <;> simp [Op.unary, stuck, Pure.pure] at hs <;> (try subst hs) <;> first | exact .bool _ | cases hs
  · cases h
theorem run_equal_bool {P : Program} {t : TypeId} (ht : P.underlying t = some .bool) (a b : Bool) (w : World) : (Op.equal t (.bool a) (.bool b)).run P w = .ok (a == b) w := by
  unfold Op.equal
  obtain ⟨d, hd⟩ : ∃ d, Op.maxDepth = d + 1 := ⟨9999, rfl⟩
  rw [hd]
  simp only [Op.equalIn, Sem.run_bind, run_underlying ht, Result.andThen_ok, Sem.run_pure]
theorem run_equal_ptr {P : Program} {t e : TypeId} (ht : P.underlying t = some (.pointer e)) (a : Option Addr) (w : World) :
    (Op.equal t (.pointer a) (.pointer none)).run P w = .ok a.isNone w ∧ (Op.equal t (.pointer none) (.pointer a)).run P w = .ok a.isNone w := by
  unfold Op.equal
  obtain ⟨d, hd⟩ : ∃ d, Op.maxDepth = d + 1 := ⟨9999, rfl⟩
  rw [hd]
  constructor <;> cases a <;> simp only [Op.equalIn, Sem.run_bind, run_underlying ht, Result.andThen_ok, Sem.run_pure] <;> rfl
theorem run_equal_sl {P : Program} {t e : TypeId} (ht : P.underlying t = some (.slice e)) (a : Option Addr) (n c m q : Nat) (w : World) :
    (Op.equal t (.slice a n c) (.slice none m q)).run P w = .ok a.isNone w ∧ (Op.equal t (.slice none m q) (.slice a n c)).run P w = .ok a.isNone w := by
  unfold Op.equal
  obtain ⟨d, hd⟩ : ∃ d, Op.maxDepth = d + 1 := ⟨9999, rfl⟩
  rw [hd]
  constructor <;> cases a <;> simp only [Op.equalIn, Sem.run_bind, run_underlying ht, Result.andThen_ok, Sem.run_pure] <;> rfl
def eqOp (neg : Bool) : BinOp := if neg then .neq else .eql
theorem psound_eqb {P : Program} {neg : Bool} {t u : TypeId} {x y : Operand} (ht : P.underlying t = some .bool) : PSound P (.binOp (eqOp neg) t x y u) (.eqb neg x y) := fun β ev ev' o v ho hv h => by
  have hx := hv x (by simp [Op.operands])
  have hy := hv y (by simp [Op.operands])
  simp only [pop] at h
  split at h
  · rename_i a b ha hb
    rw [ha] at hx; rw [hb] at hy
    have ex := hx.bool_inv
    have ey := hy.bool_inv
    cases h
    refine ⟨_, fun w => ?_, .bool _⟩
    simp only [execOp, ho, ex, ey, Sem.run_bind]
    have hg : (eqGuard (eqOp neg) t x y (.bool a) (.bool b)).run P w = .ok () w := by
      unfold eqGuard eqOp; cases neg <;> rfl
    rw [hg]
    cases neg <;> simp only [eqOp, Result.andThen_ok, binOp, Sem.run_bind, run_equal_bool ht, Sem.run_pure, if_true, Bool.false_eq_true, if_false] <;> simp
  · cases h
theorem psound_eqp {P : Program} {neg : Bool} {t u e : TypeId} {x y : Operand} (ht : P.underlying t = some (.pointer e)) : PSound P (.binOp (eqOp neg) t x y u) (.eqp neg x y) := fun β ev ev' o v ho hv h => by
  have hx := hv x (by simp [Op.operands])
  have hy := hv y (by simp [Op.operands])
  have hg : ∀ (a b : Option Addr) w, (eqGuard (eqOp neg) t x y (.pointer a) (.pointer b)).run P w = .ok () w := fun a b w => by
    unfold eqGuard eqOp; cases neg <;> rfl
  have fin : ∀ (a b : Option Addr) (r : Bool), (∀ w, (Op.equal t (.pointer a) (.pointer b)).run P w = .ok r w) → ev' x = .pointer a → ev' y = .pointer b → ∀ w, (execOp ev' o).run P w = .ok (.value (.bool (neg ^^ r))) w := by
    intro a b r hr ex ey w
    simp only [execOp, ho, ex, ey, Sem.run_bind, hg, Result.andThen_ok]
    cases neg <;> simp only [eqOp, binOp, Sem.run_bind, hr, Result.andThen_ok, Sem.run_pure, if_true, Bool.false_eq_true, if_false] <;> simp
  simp only [pop] at h
  split at h
  · rename_i a ha hb
    rw [ha] at hx; rw [hb] at hy
    cases h
    cases hyv : ev' y <;> rw [hyv] at hy <;> cases hy
    cases hxv : ev' x <;> rw [hxv] at hx <;> cases hx
    · exact ⟨_, fin none none true (fun w => (run_equal_ptr ht _ w).1) hxv hyv, .bool _⟩
    · exact ⟨_, fin _ none false (fun w => (run_equal_ptr ht _ w).1) hxv hyv, .bool _⟩
    · exact ⟨_, fin _ none false (fun w => (run_equal_ptr ht _ w).1) hxv hyv, .bool _⟩
  · rename_i b hne ha hb
    rw [ha] at hx; rw [hb] at hy
    cases h
    cases hxv : ev' x <;> rw [hxv] at hx <;> cases hx
    cases hyv : ev' y <;> rw [hyv] at hy <;> cases hy
    · exact ⟨_, fin none none true (fun w => (run_equal_ptr ht _ w).2) hxv hyv, .bool _⟩
    · exact ⟨_, fin none _ false (fun w => (run_equal_ptr ht _ w).2) hxv hyv, .bool _⟩
    · exact ⟨_, fin none _ false (fun w => (run_equal_ptr ht _ w).2) hxv hyv, .bool _⟩
  · cases h
theorem VR.slice_inv {β : Nat → Ent} {a : Option Addr} {n c : Nat} {v' : Value} (h : VR β (.slice a n c) v') : ∃ a' c', v' = .slice a' n c' ∧ a'.isNone = a.isNone := by
  cases h <;> exact ⟨_, _, rfl, rfl⟩
theorem psound_eqs {P : Program} {neg : Bool} {t u e : TypeId} {x y : Operand} (ht : P.underlying t = some (.slice e)) : PSound P (.binOp (eqOp neg) t x y u) (.eqs neg x y) := fun β ev ev' o v ho hv h => by
  have hx := hv x (by simp [Op.operands])
  have hy := hv y (by simp [Op.operands])
  have hg : ∀ (a b : Option Addr) n c m q w, (eqGuard (eqOp neg) t x y (.slice a n c) (.slice b m q)).run P w = .ok () w := fun a b n c m q w => by
    unfold eqGuard eqOp; cases neg <;> rfl
  have fin : ∀ (a b : Option Addr) n c m q (r : Bool), (∀ w, (Op.equal t (.slice a n c) (.slice b m q)).run P w = .ok r w) → ev' x = .slice a n c → ev' y = .slice b m q → ∀ w, (execOp ev' o).run P w = .ok (.value (.bool (neg ^^ r))) w := by
    intro a b n c m q r hr ex ey w
    simp only [execOp, ho, ex, ey, Sem.run_bind, hg, Result.andThen_ok]
    cases neg <;> simp only [eqOp, binOp, Sem.run_bind, hr, Result.andThen_ok, Sem.run_pure, if_true, Bool.false_eq_true, if_false] <;> simp
  simp only [pop] at h
  split at h
  · rename_i a n c m q ha hb
    rw [ha] at hx; rw [hb] at hy
    cases h
    obtain ⟨a', c', hxv, hn⟩ := hx.slice_inv
    obtain ⟨b', q', hyv, hm⟩ := hy.slice_inv
    have : b' = none := by cases b' <;> simp_all
    subst this
    exact ⟨_, fin a' none n c' m q' _ (fun w => (run_equal_sl ht a' n c' m q' w).1) hxv hyv, by rw [hn]; exact .bool _⟩
  · rename_i n c a m q hne ha hb
    rw [ha] at hx; rw [hb] at hy
    cases h
    obtain ⟨a', c', hxv, hn⟩ := hx.slice_inv
    obtain ⟨b', q', hyv, hm⟩ := hy.slice_inv
    have : a' = none := by cases a' <;> simp_all
    subst this
    exact ⟨_, fin none b' n c' m q' _ (fun w => (run_equal_sl ht b' m q' n c' w).2) hxv hyv, by rw [hm]; exact .bool _⟩
  · cases h
theorem psound_conv {P : Program} {s t : TypeId} {k : IntKind} {x : Operand} {d : TypeDesc} (hs : P.underlying s = some d) (ht : P.underlying t = some (.int k)) : PSound P (.convert s t x) (.conv k x) := fun β ev ev' o v ho hv h => by
  have hx := hv x (by simp [Op.operands])
  simp only [pop] at h
  split at h
  · rename_i k' n ha
    rw [ha] at hx
    cases h
    refine ⟨_, fun w => ?_, .int _ _⟩
    simp only [execOp, ho, hx.int_inv, Sem.run_bind, convert, run_underlying hs, run_underlying ht, Result.andThen_ok]
    rfl
  · cases h
theorem psound_cstr {P : Program} {s t : TypeId} {x : Operand} (hs : P.underlying s = some .string) (ht : P.underlying t = some .string) : PSound P (.convert s t x) (.cstr x) := fun β ev ev' o v ho hv h => by
  have hx := hv x (by simp [Op.operands])
  simp only [pop] at h
  split at h
  · rename_i n ha
    rw [ha] at hx
    cases h
    refine ⟨_, fun w => ?_, .string _⟩
    simp only [execOp, ho, hx.string_inv, Sem.run_bind, convert, run_underlying hs, run_underlying ht, Result.andThen_ok]
    rfl
  · cases h
theorem run_sz {P : Program} {t : TypeId} {sz : Nat} (h : (P.info? t).map (·.size) = some sz) (w : World) : (sizeOf t).run P w = .ok sz w := by
  cases hi : P.info? t with
  | none => simp [hi] at h
  | some i => simp [hi] at h; simp [sizeOf, typeInfo, hi, h]
theorem psound_off {P : Program} {s : TypeId} {x : Operand} {f sz : Nat} {fs : Array Field} {fld : Field} (hs : P.underlying s = some (.struct fs)) (hf : fs[f]? = some fld) (hz : (P.info? fld.type).map (·.size) = some sz) (h0 : sz ≠ 0) :
    PSound P (.fieldAddr s x f) (.off x fld.offset) := fun β ev ev' o v ho hv h => by
  have hx := hv x (by simp [Op.operands])
  simp only [pop] at h
  split at h
  · rename_i l oo ha
    rw [ha] at hx
    cases h
    have hrun : ∀ a : Addr, ev' x = .pointer (some a) → ∀ w, (execOp ev' o).run P w = .ok (.value (.pointer (some (a.add fld.offset)))) w := fun a ha w => by
      simp only [execOp, ho, ha, Instr.fieldAt, Sem.run_bind, run_underlying hs, Result.andThen_ok, hf, Instr.sureAddr, Sem.run_pure, fieldPlace, run_sz hz, if_neg h0]
    cases hxv : ev' x <;> rw [hxv] at hx <;> cases hx
    · rename_i hb
      exact ⟨_, hrun _ hxv, by rw [Addr.add_lit]; exact .ptr hb⟩
    · rename_i hb
      exact ⟨_, hrun _ hxv, .pdead _ hb⟩
  · cases h
theorem psound_idx {P : Program} {t e : TypeId} {x i : Operand} {sz : Nat} (ht : P.underlying t = some (.slice e)) (hz : (P.info? e).map (·.size) = some sz) : PSound P (.indexAddr t x i) (.idx x i sz) := fun β ev ev' o v ho hv h => by
  have hx := hv x (by simp [Op.operands])
  have hi := hv i (by simp [Op.operands])
  simp only [pop] at h
  split at h
  · rename_i l oo n c k j ha hj
    split at h
    · rename_i hb
      rw [ha] at hx; rw [hj] at hi
      cases h
      have hrun : ∀ (a : Addr) c', ev' x = .slice (some a) n c' → ∀ w, (execOp ev' o).run P w = .ok (.value (.pointer (some (a.add (j.toNat * sz))))) w := fun a c' ha w => by
        simp only [execOp, ho, ha, hi.int_inv, Instr.indexAt, asIntOf, Sem.run_bind, run_underlying ht, Result.andThen_ok, Sem.run_pure, Sem.run_ite, if_pos hb, run_sz hz]
      generalize hxv : ev' x = xv at hx
      cases hx with
      | sl hl h1 h2 h3 h4 h5 => exact ⟨_, hrun _ _ hxv, by rw [Addr.add_lit]; exact .ptr hl⟩
      | sdead a hl _ => exact ⟨_, hrun _ _ hxv, .pdead _ hl⟩
    · cases h
  · cases h
theorem psound_idxp {P : Program} {t e : TypeId} {x i : Operand} {n sz : Nat} (ht : P.underlying t = some (.array n e)) (hz : (P.info? e).map (·.size) = some sz) : PSound P (.indexAddr t x i) (.idxp x i n sz) := fun β ev ev' o v ho hv h => by
  have hx := hv x (by simp [Op.operands])
  have hi := hv i (by simp [Op.operands])
  simp only [pop] at h
  split at h
  · rename_i l oo k j ha hj
    split at h
    · rename_i hb
      rw [ha] at hx; rw [hj] at hi
      cases h
      have hrun : ∀ (a : Addr), ev' x = .pointer (some a) → ∀ w, (execOp ev' o).run P w = .ok (.value (.pointer (some (a.add (j.toNat * sz))))) w := fun a ha w => by
        simp only [execOp, ho, ha, hi.int_inv, Instr.indexAt, asIntOf, Sem.run_bind, run_underlying ht, Result.andThen_ok, Sem.run_pure, Instr.sureAddr, Sem.run_ite, if_pos hb, run_sz hz]
      cases hxv : ev' x <;> rw [hxv] at hx <;> cases hx
      · rename_i hl
        exact ⟨_, hrun _ hxv, by rw [Addr.add_lit]; exact .ptr hl⟩
      · rename_i hl
        exact ⟨_, hrun _ hxv, .pdead _ hl⟩
    · cases h
  · cases h
theorem psound_sidx {P : Program} {t : TypeId} {x i : Operand} (ht : P.underlying t = some .string) : PSound P (.index t x i) (.sidx x i) := fun β ev ev' o v ho hv h => by
  have hx := hv x (by simp [Op.operands])
  have hi := hv i (by simp [Op.operands])
  simp only [pop] at h
  split at h
  · rename_i s k j ha hj
    rw [ha] at hx; rw [hj] at hi
    split at h
    · rename_i h0
      cases hs : s[j.toNat]? with
      | none => rw [hs] at h; cases h
      | some b =>
        rw [hs] at h
        cases h
        refine ⟨_, fun w => ?_, .int _ _⟩
        simp only [execOp, ho, hx.string_inv, hi.int_inv, Instr.index, asIntOf, Sem.run_bind, run_underlying ht, Result.andThen_ok, Sem.run_pure, if_pos h0, hs]
    · cases h
  · cases h
theorem VR.tuple_inv {β : Nat → Ent} {as : Array Value} {v' : Value} (h : VR β (.tuple as) v') : as = #[] ∨ ∃ bs, v' = .tuple bs ∧ as.size = bs.size ∧ ∀ i (h1 : i < as.size) (h2 : i < bs.size), VR β as[i] bs[i] := by
  cases h with
  | undef => exact .inl rfl
  | tuple h hi => exact .inr ⟨_, rfl, h, hi⟩
theorem psound_ext {P : Program} {x : Operand} {i : Nat} : PSound P (.extract x i) (.ext x i) := fun β ev ev' o v ho hv h => by
  have hx := hv x (by simp [Op.operands])
  simp only [pop] at h
  split at h
  · rename_i vs ha
    rw [ha] at hx
    rcases hx.tuple_inv with rfl | ⟨bs, hxv, hs, hi⟩
    · simp at h
    · obtain ⟨h1, rfl⟩ := Array.getElem?_eq_some_iff.1 h
      refine ⟨_, fun w => ?_, hi i h1 (by omega)⟩
      simp only [execOp, ho, hxv, Instr.extract, Array.getElem?_eq_getElem (show i < bs.size by omega), Sem.run_bind, Sem.run_pure, Result.andThen_ok]
  · cases h
theorem psound_nck {P : Program} {x : Operand} : PSound P (.nilCheck x) (.nck x) := fun β ev ev' o v ho hv h => by
  have hx := hv x (by simp [Op.operands])
  simp only [pop] at h
  split at h
  · rename_i a ha
    rw [ha] at hx
    cases h
    obtain ⟨a', hxv⟩ : ∃ a', ev' x = .pointer (some a') := by
      generalize ev' x = xv at hx
      cases hx <;> exact ⟨_, rfl⟩
    rw [hxv] at hx
    exact ⟨.pointer (some a'), fun w => by simp only [execOp, ho, hxv]; rfl, hx⟩
  · cases h
theorem psound_fn {P : Program} {f : FuncId} {caps : Array Operand} : PSound P (.makeFunc (.func f) #[] caps) (.fn f caps.toList) := fun β ev ev' o v ho hv h => by
  simp only [pop, Option.some.injEq] at h
  subst h
  refine ⟨.func (.func f) #[] (caps.map ev'), fun w => by simp [execOp, ho, Instr.makeFunc], .fn f (by simp) fun i h1 h2 => ?_⟩
  simp only [List.getElem_toArray, List.getElem_map, Array.getElem_toList, Array.getElem_map]
  exact hv _ (by simp [Op.operands])
end Can
end Go.Proofs.Ytmpojphjongdcaa
