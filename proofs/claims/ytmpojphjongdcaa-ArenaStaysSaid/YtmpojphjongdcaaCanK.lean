/- Canonical runs: code as it is loaded, brought into its canonical form. Over any program. -/
import Derived.Test.YtmpojphjongdcaaCanJ
namespace Go.Proofs.Ytmpojphjongdcaa
namespace Can
open Go Go.RowKit
set_option linter.unusedSimpArgs false
set_option linter.unusedVariables false
variable {P : Program} {B : Nat}

def szOf (P : Program) (t : TypeId) : Option Nat := (P.info? t).map (·.size)
def allSome : List (Option Nat) → Option (List Nat)
  | [] => some []
  | some x :: r => (allSome r).map (x :: ·)
  | none :: _ => none
theorem allSome_spec : ∀ {l : List (Option Nat)} {r : List Nat}, allSome l = some r → l = r.map some
  | [], r, h => by simp [allSome] at h; subst h; rfl
  | some x :: l, r, h => by
    simp only [allSome] at h
    cases hl : allSome l with
    | none => rw [hl] at h; cases h
    | some q => rw [hl] at h; cases h; simp [allSome_spec hl]
  | none :: l, r, h => by simp [allSome] at h
def resCall (P : Program) (c : Call) : Option ROp :=
  match c.callee with
  | .value (.func f) => some (.call f c.args.toList)
  | .value (.tmp t) => some (.callv (.tmp t) c.args.toList)
  | .builtin .len => match c.args.toList, c.argTypes.toList with
    | [x], [t] => match P.underlying t with
      | some (.slice _) => some (.p (.len x))
      | some .string => some (.p (.lens x))
      | _ => none
    | _, _ => none
  | .builtin .append => match c.args.toList, c.argTypes.toList with
    | [s, x], [t, u] => match P.underlying t, P.underlying u with
      | some (.slice e), some (.slice e') => match P.info? e with
        | some i => match i.zero with
          | some z => if e' = e ∧ z.cells.size = i.size ∧ 0 < i.size then some (.w (.app e i.size i.bytes s x)) else none
          | none => none
        | none => none
      | some (.slice e), some .string => match P.info? e with
        | some i => match i.zero with
          | some z => if z.cells.size = i.size ∧ 0 < i.size then some (.w (.app e i.size i.bytes s x)) else none
          | none => none
        | none => none
      | _, _ => none
    | _, _ => none
  | .builtin .max => match c.args.toList with
    | [x, y] => some (.p (.mx true x y))
    | _ => none
  | .builtin .min => match c.args.toList with
    | [x, y] => some (.p (.mx false x y))
    | _ => none
  | .builtin .copy => match c.args.toList, c.argTypes.toList with
    | [d, s], [t, _] => match P.underlying t with
      | some (.slice e) => match szOf P e with
        | some sz => some (.w (.cpy sz d s))
        | none => none
      | _ => none
    | _, _ => none
  | _ => none
def resOp (P : Program) : Op → Option ROp
  | .move x => some (.p (.mov x))
  | .assign x => some (.p (.mov x))
  | .pick c a b => some (.p (.pick c a b))
  | .box e x => match szOf P e with
    | some _ => some (.a (.box e x))
    | none => none
  | .alloc e => match P.info? e with
    | some i => match i.zero with
      | some z => if closedC z.cells.toList = true then some (.a (.new e z.cells.toList)) else none
      | none => none
    | none => none
  | .build t ps => match P.underlying t, P.info? t with
    | some (.struct fs), some i => match i.zero with
      | some (.agg z) => match allSome (fs.toList.map fun f => szOf P f.type) with
        | some szs => if closedC z.toList = true ∧ (ps.toList.all fun p => decide (p.1 < fs.size)) = true then
            some (.p (.bld z.toList (ps.toList.filterMap fun p => ((fs.toList.map (·.offset)).zip szs)[p.1]?.map fun q => (q.1, q.2, p.2)))) else none
        | none => none
      | _ => none
    | some (.array n e), some i => match i.zero, szOf P e with
      | some (.agg z), some sz => if closedC z.toList = true then some (.p (.bld z.toList (ps.toList.map fun p => (p.1 * sz, sz, p.2)))) else none
      | _, _ => none
    | _, _ => none
  | .field st x f => match P.underlying st with
    | some (.struct fs) => match fs[f]? with
      | some fld => match P.underlying fld.type, szOf P fld.type with
        | some d, some n => some (.p (.fld x fld.offset (if isAggD d then some n else none)))
        | _, _ => none
      | none => none
    | _ => none
  | .buildSlice t n ps => match P.underlying t with
    | some (.slice e) => match P.info? e with
      | some i => match i.zero with
        | some z => if closedC z.cells.toList = true ∧ 0 < z.cells.size then some (.a (.bsl e i.size n z.cells.toList ps.toList)) else none
        | none => none
      | none => none
    | _ => none
  | .load t x => match P.underlying t with
    | some d => if isAggD d then match szOf P t with
        | some n => some (.l (.lda n x))
        | none => none
      else some (.l (.ld x))
    | none => none
  | .store t x v => match szOf P t with
    | some n => some (.w (.st n x v))
    | none => none
  | .nilCheck x => some (.p (.nck x))
  | .binOp op t x y _ => match P.underlying t with
    | some .bool => match op with
      | .eql => some (.p (.eqb false x y))
      | .neq => some (.p (.eqb true x y))
      | _ => none
    | some (.pointer _) => match op with
      | .eql => some (.p (.eqp false x y))
      | .neq => some (.p (.eqp true x y))
      | _ => none
    | some (.slice _) => match op with
      | .eql => some (.p (.eqs false x y))
      | .neq => some (.p (.eqs true x y))
      | _ => none
    | some _ => some (.p (.bin op x y))
    | none => none
  | .unOp op _ x => some (.p (.un op x))
  | .convert s t x => match P.underlying s, P.underlying t with
    | some _, some (.int k) => some (.p (.conv k x))
    | some .string, some .string => some (.p (.cstr x))
    | _, _ => none
  | .makeFunc (.func f) first caps => if first.toList.isEmpty then some (.p (.fn f caps.toList)) else none
  | .makeSlice t l c => match P.underlying t with
    | some (.slice e) => match P.info? e with
      | some i => match i.zero with
        | some z => if closedC z.cells.toList = true ∧ 0 < z.cells.size then some (.a (.mks e i.size i.bytes z.cells.toList l c)) else none
        | none => none
      | none => none
    | _ => none
  | .slice t x lo hi mx => match P.underlying t with
    | some (.slice e) => match szOf P e with
      | some sz => some (.l (.slc e sz x lo hi mx))
      | none => none
    | some .string => if mx.isNone then some (.p (.sstr x lo hi)) else none
    | _ => none
  | .fieldAddr s x f => match P.underlying s with
    | some (.struct fs) => match fs[f]? with
      | some fld => match szOf P fld.type with
        | some sz => if sz ≠ 0 then some (.p (.off x fld.offset)) else none
        | none => none
      | none => none
    | _ => none
  | .indexAddr t x i => match P.underlying t with
    | some (.slice e) => match szOf P e with
      | some sz => some (.p (.idx x i sz))
      | none => none
    | some (.array n e) => match szOf P e with
      | some sz => some (.p (.idxp x i n sz))
      | none => none
    | _ => none
  | .index t x i => match P.underlying t with
    | some .string => some (.p (.sidx x i))
    | some (.array n e) => match P.underlying e, szOf P e with
      | some d, some sz => some (.p (.idxv x i n sz (isAggD d)))
      | _, _ => none
    | _ => none
  | .extract x i => some (.p (.ext x i))
  | .call c => resCall P c
  | _ => none
theorem arr1 {α : Type} {a : Array α} {x : α} (h : a.toList = [x]) : a = #[x] := by apply Array.ext'; simpa using h
theorem arr2 {α : Type} {a : Array α} {x y : α} (h : a.toList = [x, y]) : a = #[x, y] := by apply Array.ext'; simpa using h
theorem resCall_ok {c : Call} {r : ROp} (h : resCall P c = some r) : OpOk P (.call c) r := by
  obtain ⟨callee, args, ts⟩ := c
  unfold resCall at h
  simp only at h
  split at h
  · cases h; exact .call rfl
  · cases h; exact .callv rfl
  · split at h
    · rename_i x t ha ht
      rw [arr1 ha, arr1 ht]
      split at h
      · rename_i hu; cases h; exact .p (psound_len hu)
      · rename_i hu; cases h; exact .p (psound_lens hu)
      · cases h
    · cases h
  · split at h
    · rename_i s x t u ha ht
      rw [arr2 ha, arr2 ht]
      split at h
      · rename_i e e' hu hu'
        split at h
        · rename_i i hi
          split at h
          · rename_i z hz
            split at h
            · rename_i g
              obtain ⟨rfl, g2, g3⟩ := g
              cases h
              exact .w (wsound_app hu (.inl hu') (by simp [hi, hz]) g2 g3)
            · cases h
          · cases h
        · cases h
      · rename_i e hu hu'
        split at h
        · rename_i i hi
          split at h
          · rename_i z hz
            split at h
            · rename_i g
              cases h
              exact .w (wsound_app hu (.inr hu') (by simp [hi, hz]) g.1 g.2)
            · cases h
          · cases h
        · cases h
      · cases h
    · cases h
  · split at h
    · rename_i x y ha
      rw [arr2 ha]
      cases h
      exact .p (psound_mx (b := true))
    · cases h
  · split at h
    · rename_i x y ha
      rw [arr2 ha]
      cases h
      exact .p (psound_mx (b := false))
    · cases h
  · split at h
    · rename_i d s t u ha ht
      rw [arr2 ha, arr2 ht]
      split at h
      · rename_i e hu
        split at h
        · rename_i sz hs
          cases h
          exact .w (wsound_cpy hu hs)
        · cases h
      · cases h
    · cases h
  · cases h
theorem resOp_ok {op : Op} {r : ROp} (h : resOp P op = some r) : OpOk P op r := by
  cases op with
  | move x => cases h; exact .p psound_move
  | assign x => cases h; exact .p psound_assign
  | pick c a b => cases h; exact .p psound_pick
  | box e x =>
    simp only [resOp] at h
    split at h
    · rename_i sz hs; cases h; exact .a (asound_box hs)
    · cases h
  | alloc e =>
    simp only [resOp] at h
    split at h
    · rename_i i hi
      split at h
      · rename_i z hz
        split at h
        · rename_i hc
          cases h
          exact .a (asound_new (sz := i.size) (by simp [hi]) (by simp [hi, hz]) (closedC_rel hc))
        · cases h
      · cases h
    · cases h
  | build t ps =>
    simp only [resOp] at h
    split at h
    · rename_i fs i hu hi
      split at h
      · rename_i z hz
        split at h
        · rename_i szs hs
          split at h
          · rename_i g
            cases h
            refine .p (psound_bld_struct hu (by simp [hi, hz]) (closedC_rel g.1) szs ?_ fun p hp => ?_)
            · exact allSome_spec hs
            · exact of_decide_eq_true (List.all_eq_true.1 g.2 p hp)
          · cases h
        · cases h
      · cases h
    · rename_i n e i hu hi
      split at h
      · rename_i z sz hz hs
        split at h
        · rename_i g
          cases h
          exact .p (psound_bld_array hu hs (by simp [hi, hz]) (closedC_rel g))
        · cases h
      · cases h
    · cases h
  | field st x f =>
    simp only [resOp] at h
    split at h
    · rename_i fs hu
      split at h
      · rename_i fld hf
        split at h
        · rename_i d n hd hn
          cases h
          exact .p (psound_fld hu hf hd rfl hn)
        · cases h
      · cases h
    · cases h
  | buildSlice t n ps =>
    simp only [resOp] at h
    split at h
    · rename_i e hu
      split at h
      · rename_i i hi
        split at h
        · rename_i z hz
          split at h
          · rename_i g
            cases h
            exact .a (asound_bsl hu (by simp [hi]) (by simp [hi, hz]) (closedC_rel g.1) g.2)
          · cases h
        · cases h
      · cases h
    · cases h
  | load t x =>
    simp only [resOp] at h
    split at h
    · rename_i d hd
      split at h
      · rename_i ha
        split at h
        · rename_i n hn
          cases h
          exact .l (lsound_lda hd (by cases d <;> first | rfl | cases ha) hn)
        · cases h
      · rename_i ha
        cases h
        exact .l (lsound_ld hd (by cases d <;> first | rfl | exact absurd rfl ha))
    · cases h
  | store t x v =>
    simp only [resOp] at h
    split at h
    · rename_i n hn; cases h; exact .w (wsound_st hn)
    · cases h
  | nilCheck x => cases h; exact .p psound_nck
  | binOp op t x y u =>
    simp only [resOp] at h
    split at h
    · rename_i hu
      split at h
      · cases h; exact .p (psound_eqb (neg := false) hu)
      · cases h; exact .p (psound_eqb (neg := true) hu)
      · cases h
    · rename_i hu
      split at h
      · cases h; exact .p (psound_eqp (neg := false) hu)
      · cases h; exact .p (psound_eqp (neg := true) hu)
      · cases h
    · rename_i hu
      split at h
      · cases h; exact .p (psound_eqs (neg := false) hu)
      · cases h; exact .p (psound_eqs (neg := true) hu)
      · cases h
    · cases h; exact .p psound_bin
    · cases h
  | unOp op t x => cases h; exact .p psound_un
  | convert s t x =>
    simp only [resOp] at h
    split at h
    · rename_i d k hs ht; cases h; exact .p (psound_conv hs ht)
    · rename_i hs ht; cases h; exact .p (psound_cstr hs ht)
    · cases h
  | makeFunc fn first caps =>
    cases fn with
    | func f =>
      simp only [resOp] at h
      split at h
      · rename_i he
        cases h
        have : first = #[] := by apply Array.ext'; simpa using he
        subst this
        exact .p psound_fn
      · cases h
    | _ => cases h
  | makeSlice t l c =>
    simp only [resOp] at h
    split at h
    · rename_i e hu
      split at h
      · rename_i i hi
        split at h
        · rename_i z hz
          split at h
          · rename_i g
            cases h
            exact .a (asound_mks hu (by simp [hi]) (by simp [hi, hz]) (closedC_rel g.1) g.2)
          · cases h
        · cases h
      · cases h
    · cases h
  | slice t x lo hi mx =>
    simp only [resOp] at h
    split at h
    · rename_i e hu
      split at h
      · rename_i sz hs; cases h; exact .l (lsound_slc hu hs)
      · cases h
    · rename_i hu
      split at h
      · rename_i hm
        cases h
        cases mx with
        | none => exact .p (psound_sstr hu)
        | some m => cases hm
      · cases h
    · cases h
  | fieldAddr s x f =>
    simp only [resOp] at h
    split at h
    · rename_i fs hu
      split at h
      · rename_i fld hf
        split at h
        · rename_i sz hs
          split at h
          · rename_i h0; cases h; exact .p (psound_off hu hf hs h0)
          · cases h
        · cases h
      · cases h
    · cases h
  | indexAddr t x i =>
    simp only [resOp] at h
    split at h
    · rename_i e hu
      split at h
      · rename_i sz hs; cases h; exact .p (psound_idx hu hs)
      · cases h
    · rename_i n e hu
      split at h
      · rename_i sz hs; cases h; exact .p (psound_idxp hu hs)
      · cases h
    · cases h
  | index t x i =>
    simp only [resOp] at h
    split at h
    · rename_i hu; cases h; exact .p (psound_sidx hu)
    · rename_i n e hu
      split at h
      · rename_i d sz hd hs
        cases h
        exact .p (psound_idxv hu hd rfl hs)
      · cases h
    · cases h
  | extract x i => cases h; exact .p psound_ext
  | call c => exact resCall_ok h
  | _ => cases h
end Can
end Go.Proofs.Ytmpojphjongdcaa
