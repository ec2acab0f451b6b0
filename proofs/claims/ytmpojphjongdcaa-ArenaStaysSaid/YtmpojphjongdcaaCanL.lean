/- Canonical runs: code and functions as they are loaded, brought into canonical form. Over any program. -/
import Derived.Test.YtmpojphjongdcaaCanK
namespace Go.Proofs.Ytmpojphjongdcaa
namespace Can
open Go Go.RowKit
set_option linter.unusedSimpArgs false
set_option linter.unusedVariables false
variable {P : Program} {B : Nat}

def isDefer : Op → Bool
  | .defer _ => true
  | _ => false
def dstOk (N : Nat) : Option Nat → Bool
  | some d => decide (d < N)
  | none => true
def resItem (P : Program) (N : Nat) (ops : Array Oper) (o : Oper) : Option Item :=
  match resOp P o.op with
  | some r =>
    if dstOk N o.dst && o.op.operands.toList.all okOpnd && !isDefer o.op then
      match o.guard with
      | none => some ⟨o.dst, r, none⟩
      | some (j, b) => match (ops[j]?).bind (·.dst) with
        | some s => if s < N then some ⟨o.dst, r, some (s, b)⟩ else none
        | none => none
    else none
  | none => none
theorem resItem_ok {N : Nat} {ops : Array Oper} {o : Oper} {it : Item} (h : resItem P N ops o = some it) : ItemOk P N ops o it := by
  unfold resItem at h
  split at h
  · rename_i r hr
    split at h
    · rename_i hg
      simp only [Bool.and_eq_true, Bool.not_eq_true'] at hg
      obtain ⟨⟨g1, g2⟩, g3⟩ := hg
      have hlt : ∀ d, o.dst = some d → d < N := fun d hd => by rw [hd] at g1; simpa [dstOk] using g1
      have hop : ∀ x ∈ o.op.operands, okOpnd x = true := fun x hx => List.all_eq_true.1 g2 x (by simpa using hx)
      have hnd : ∀ c, o.op ≠ .defer c := fun c e => by rw [e] at g3; cases g3
      split at h
      · rename_i hgd
        cases h
        exact ⟨rfl, hlt, resOp_ok hr, hop, hnd, .inl ⟨hgd, rfl⟩⟩
      · rename_i j b hgd
        split at h
        · rename_i s hs
          split at h
          · rename_i hsl
            cases h
            exact ⟨rfl, hlt, resOp_ok hr, hop, hnd, .inr ⟨j, b, s, hgd, rfl, hs, hsl⟩⟩
          · cases h
        · cases h
    · cases h
  · cases h
def resItems (P : Program) (N : Nat) (ops : Array Oper) : List Oper → Option (List Item)
  | [] => some []
  | o :: r => match resItem P N ops o, resItems P N ops r with
    | some it, some its => some (it :: its)
    | _, _ => none
theorem resItems_ok {N : Nat} {ops : Array Oper} : ∀ {l : List Oper} {its : List Item}, resItems P N ops l = some its → its.length = l.length ∧ ∀ i (h1 : i < its.length) (h2 : i < l.length), ItemOk P N ops l[i] its[i]
  | [], its, h => by simp [resItems] at h; subst h; exact ⟨rfl, fun i h1 => absurd h1 (by simp)⟩
  | o :: l, its, h => by
    simp only [resItems] at h
    split at h
    · rename_i it its0 h1 h2
      cases h
      obtain ⟨g1, g2⟩ := resItems_ok h2
      refine ⟨by simp [g1], fun i hi hj => ?_⟩
      cases i with
      | zero => exact resItem_ok h1
      | succ i => simpa using g2 i (by simpa using hi) (by simpa using hj)
    · cases h
/-- A region that draws, by the reader that is given; loops over functions by their keys: f the function, k how many stand ahead. -/
def resCode (P : Program) (N : Nat) (rd : Array Oper → Option DReg) (f : Nat) : Nat → Code → Option RCode
  | _, .skip => some .skip
  | _, .label _ => some .skip
  | _, .region _ ops false => (resItems P N ops ops.toList).map .reg
  | _, .region _ ops true => (rd ops).map .drw
  | k, .seq a b => match resCode P N rd f k a, resCode P N rd f (k + (loopsOf a).length) b with
    | some x, some y => some (.seq x y)
    | _, _ => none
  | k, .cond c a b => if okOpnd c then match resCode P N rd f k a, resCode P N rd f (k + (loopsOf a).length) b with
      | some x, some y => some (.cond c x y)
      | _, _ => none
    else none
  | k, .block id c => (resCode P N rd f k c).map (.block id)
  | k, .loop c => (resCode P N rd f k c).map .loop
  | _, .exit id => some (.exit id)
  | _, .ret => some .ret
  | k, .rangeFunc g _ _ _ => if okOpnd g then some (.rangeF g (f, k)) else none
  | _, _ => none
theorem resCode_ok {N f : Nat} {rd : Array Oper → Option DReg} (hrd : ∀ ops d, rd ops = some d → DOk P N ops d) : ∀ {c : Code} {k : Nat} {r : RCode}, (∀ j x, (loopsOf c)[j]? = some x → keyOf P (f, k + j) = some (N, x)) → resCode P N rd f k c = some r → CodeOk P N c r := by
  intro c
  induction c with
  | skip => intro k r hk h; simp only [resCode] at h; cases h; exact .skip
  | label l => intro k r hk h; simp only [resCode] at h; cases h; exact .label
  | region id ops draw =>
    intro k r hk h
    cases draw with
    | false =>
      simp only [resCode] at h
      cases hi : resItems P N ops ops.toList with
      | none => rw [hi] at h; cases h
      | some its =>
        rw [hi] at h
        cases h
        obtain ⟨g1, g2⟩ := resItems_ok hi
        exact .reg (by simpa using g1) fun i h1 h2 => by have := g2 i h1 (by simpa using h2); rwa [Array.getElem_toList] at this
    | true =>
      simp only [resCode] at h
      cases hi : rd ops with
      | none => rw [hi] at h; cases h
      | some d => rw [hi] at h; cases h; exact .drw (hrd ops d hi)
  | seq a b iha ihb =>
    intro k r hk h
    simp only [loopsOf] at hk
    simp only [resCode] at h
    split at h
    · rename_i x y hx hy
      cases h
      exact .seq (iha (fun j q hq => hk j q (by rw [List.getElem?_append_left (List.getElem?_eq_some_iff.1 hq).1]; exact hq)) hx)
        (ihb (fun j q hq => by rw [Nat.add_assoc]; exact hk _ q (by rw [List.getElem?_append_right (by omega)]; simpa using hq)) hy)
    · cases h
  | cond c a b iha ihb =>
    intro k r hk h
    simp only [loopsOf] at hk
    simp only [resCode] at h
    split at h
    · rename_i hc
      split at h
      · rename_i x y hx hy
        cases h
        exact .cond hc (iha (fun j q hq => hk j q (by rw [List.getElem?_append_left (List.getElem?_eq_some_iff.1 hq).1]; exact hq)) hx)
          (ihb (fun j q hq => by rw [Nat.add_assoc]; exact hk _ q (by rw [List.getElem?_append_right (by omega)]; simpa using hq)) hy)
      · cases h
    · cases h
  | block id c ih =>
    intro k r hk h
    simp only [resCode] at h
    cases hc : resCode P N rd f k c with
    | none => rw [hc] at h; cases h
    | some x => rw [hc] at h; cases h; exact .block (ih hk hc)
  | loop c ih =>
    intro k r hk h
    simp only [resCode] at h
    cases hc : resCode P N rd f k c with
    | none => rw [hc] at h; cases h
    | some x => rw [hc] at h; cases h; exact .loop (ih hk hc)
  | exit id => intro k r hk h; simp only [resCode] at h; cases h; exact .exit
  | ret => intro k r hk h; simp only [resCode] at h; cases h; exact .ret
  | rangeFunc g ps a b iha ihb =>
    intro k r hk h
    simp only [resCode] at h
    split at h
    · rename_i hg
      cases h
      exact .rangeF hg (hk 0 _ rfl)
    · cases h
  | _ => intro k r hk h; simp [resCode] at h
/-- The loops within a loop stand behind it. -/
def Nests (L : List (Array Tmp × Code × Code)) : Prop := ∀ (i : Nat) (ps : Array Tmp) (a b : Code), L[i]? = some (ps, a, b) → ∀ j x, (loopsOf a ++ loopsOf b)[j]? = some x → L[i + 1 + j]? = some x
theorem Nests.append {L M : List (Array Tmp × Code × Code)} (h : Nests L) (k : Nests M) : Nests (L ++ M) := by
  intro i ps a b hi j x hj
  by_cases hl : i < L.length
  · rw [List.getElem?_append_left hl] at hi
    have := h i ps a b hi j x hj
    rw [List.getElem?_append_left (List.getElem?_eq_some_iff.1 this).1]
    exact this
  · rw [List.getElem?_append_right (by omega)] at hi
    have := k _ ps a b hi j x hj
    rw [List.getElem?_append_right (by omega), show i + 1 + j - L.length = i - L.length + 1 + j by omega]
    exact this
theorem nests_loopsOf (c : Code) : Nests (loopsOf c) := by
  have hnil : Nests [] := fun i ps a b h => by simp at h
  induction c with
  | seq a b iha ihb => exact iha.append ihb
  | cond c a b iha ihb => exact iha.append ihb
  | block id c ih => exact ih
  | loop c ih => exact ih
  | scope c ih => exact ih
  | rangeFunc g ps a b iha ihb =>
    have := iha.append ihb
    intro i qs x y hi j z hj
    cases i with
    | zero =>
      simp only [loopsOf, List.getElem?_cons_zero, Option.some.injEq, Prod.mk.injEq] at hi
      obtain ⟨rfl, rfl, rfl⟩ := hi
      simp only [loopsOf]
      rw [show 0 + 1 + j = j + 1 by omega, List.getElem?_cons_succ]
      exact hj
    | succ i =>
      simp only [loopsOf, List.getElem?_cons_succ] at hi
      simp only [loopsOf]
      rw [show i + 1 + 1 + j = (i + 1 + j) + 1 by omega, List.getElem?_cons_succ]
      exact this i qs x y hi j z hj
  | _ => exact hnil
theorem keyOf_body {f k N : Nat} {fn : Func} {c : Code} (hf : P.funcs[f]? = some fn) (hb : fn.body = some c) {x : Array Tmp × Code × Code} : keyOf P (f, k) = some (N, x) ↔ fn.ntmps = N ∧ (loopsOf c)[k]? = some x := by
  simp only [keyOf, hf, hb, Option.map_eq_some_iff, Prod.mk.injEq]
  constructor
  · rintro ⟨y, h1, h2, rfl⟩; exact ⟨h2, h1⟩
  · rintro ⟨h1, h2⟩; exact ⟨x, h2, h1, rfl⟩
theorem keyOf_nest {f k N : Nat} {ps : Array Tmp} {a b : Code} (h : keyOf P (f, k) = some (N, ps, a, b)) {j : Nat} {x : Array Tmp × Code × Code} (hj : (loopsOf a ++ loopsOf b)[j]? = some x) : keyOf P (f, k + 1 + j) = some (N, x) := by
  cases hf : P.funcs[f]? with
  | none => simp [keyOf, hf] at h
  | some fn =>
    cases hb : fn.body with
    | none => simp [keyOf, hf, hb] at h
    | some c =>
      rw [keyOf_body hf hb] at h ⊢
      exact ⟨h.1, nests_loopsOf c k ps a b h.2 j x hj⟩
def resLoop (P : Program) (rd : Nat → Array Oper → Option DReg) (key : Nat × Nat) : Option (List Nat × RCode × RCode) :=
  match keyOf P key with
  | some (N, ps, a, b) => if (ps.toList.all fun p => decide (p < N)) = true then match resCode P N (rd N) key.1 (key.2 + 1) a, resCode P N (rd N) key.1 (key.2 + 1 + (loopsOf a).length) b with
    | some x, some y => some (ps.toList, x, y)
    | _, _ => none
    else none
  | none => none
theorem resLoop_ok {rd : Nat → Array Oper → Option DReg} (hrd : ∀ N ops d, rd N ops = some d → DOk P N ops d) {key : Nat × Nat} {ps : List Nat} {asg body : RCode} (h : resLoop P rd key = some (ps, asg, body)) : LoopOk P key ps asg body := by
  unfold resLoop at h
  split at h
  · rename_i N qs a b hk
    split at h
    · rename_i hall
      split at h
      · rename_i x y hx hy
        cases h
        refine ⟨N, a, b, by simpa using hk, resCode_ok (hrd N) (fun j q hq => keyOf_nest hk (by rw [List.getElem?_append_left (List.getElem?_eq_some_iff.1 hq).1]; exact hq)) hx,
          resCode_ok (hrd N) (fun j q hq => by rw [Nat.add_assoc (key.2 + 1)]; exact keyOf_nest hk (by rw [List.getElem?_append_right (by omega)]; simpa using hq)) hy, fun p hp => of_decide_eq_true (List.all_eq_true.1 hall p hp)⟩
      · cases h
    · cases h
  · cases h
def resRes (P : Program) : List ResultVar → Option (List RRes)
  | [] => some []
  | r :: rs => match (match r with
      | .tmp t => some (.tmp t)
      | .cell a t => match P.underlying t with
        | some d => if isAggD d then (szOf P t).map fun n => .lda n a else some (.ld a)
        | none => none : Option RRes), resRes P rs with
    | some q, some qs => some (q :: qs)
    | _, _ => none
theorem resRes_ok : ∀ {rs : List ResultVar} {qs : List RRes}, resRes P rs = some qs → ResOks P rs qs
  | [], qs, h => by simp [resRes] at h; subst h; exact .nil
  | r :: rs, qs, h => by
    simp only [resRes] at h
    split at h
    · rename_i q qs0 h1 h2
      cases h
      refine .cons ?_ (resRes_ok h2)
      cases r with
      | tmp t => simp at h1; subst h1; exact .tmp
      | cell a t =>
        simp only at h1
        split at h1
        · rename_i d hd
          split at h1
          · rename_i ha
            cases hs : szOf P t with
            | none => rw [hs] at h1; cases h1
            | some n => rw [hs] at h1; cases h1; exact .lda hd (by cases d <;> first | rfl | cases ha) hs
          · rename_i ha
            cases h1
            exact .ld hd (by cases d <;> first | rfl | exact absurd rfl ha)
        · cases h1
    · cases h
def resFunc (P : Program) (rd : Nat → Array Oper → Option DReg) (f : FuncId) : Option RFunc :=
  if callable P f then match P.funcs[f]? with
    | some fn => match fn.body with
      | some c => match resCode P fn.ntmps (rd fn.ntmps) f 0 c, resRes P fn.results.toList with
        | some r, some q => some ⟨fn.ntmps, q, r⟩
        | _, _ => none
      | none => none
    | none => none
  else none
theorem resFunc_ok {rd : Nat → Array Oper → Option DReg} (hrd : ∀ N ops d, rd N ops = some d → DOk P N ops d) {f : FuncId} {rf : RFunc} (h : resFunc P rd f = some rf) : FuncOk P f rf := by
  unfold resFunc at h
  split at h
  · rename_i hc
    split at h
    · rename_i fn hf
      split at h
      · rename_i c hb
        split at h
        · rename_i r q hr hq
          cases h
          exact ⟨hc, fn, c, hf, hb, rfl, resCode_ok (hrd _) (fun j x hj => by rw [Nat.zero_add, keyOf_body hf hb]; exact ⟨rfl, hj⟩) hr, resRes_ok hq⟩
        · cases h
      · cases h
    · cases h
  · cases h
end Can
end Go.Proofs.Ytmpojphjongdcaa
