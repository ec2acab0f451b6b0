/- Canonical runs: code and functions as they are loaded, brought into canonical form. Over any program. -/
import Derived.Test.YtmpojphjongdcaaCanK
namespace Go.Proofs.Ytmpojphjongdcaa
namespace Can
open Go Go.RowKit
set_option linter.unusedSimpArgs false
set_option linter.unusedVariables false
variable {P : Program} {B : Nat}

def isDefer : Op → Bool
  | .defer _ => true
  | _ => false
def dstOk (N : Nat) : Option Nat → Bool
  | some d => decide (d < N)
  | none => true
def resItem (P : Program) (N : Nat) (ops : Array Oper) (o : Oper) : Option Item :=
  match resOp P o.op with
  | some r =>
    if dstOk N o.dst && o.op.operands.toList.all okOpnd && !isDefer o.op then
      match o.guard with
      | none => some ⟨o.dst, r, none⟩
      | some (j, b) => match (ops[j]?).bind (·.dst) with
        | some s => if s < N then some ⟨o.dst, r, some (s, b)⟩ else none
        | none => none
    else none
  | none => none
theorem resItem_ok {N : Nat} {ops : Array Oper} {o : Oper} {it : Item} (h : resItem P N ops o = some it) : ItemOk P N ops o it := by
  unfold resItem at h
  split at h
  · rename_i r hr
    split at h
    · rename_i hg
      simp only [Bool.and_eq_true, Bool.not_eq_true'] at hg
      obtain ⟨⟨g1, g2⟩, g3⟩ := hg
      have hlt : ∀ d, o.dst = some d → d < N := fun d hd => by rw [hd] at g1; simpa [dstOk] using g1
      have hop : ∀ x ∈ o.op.operands, okOpnd x = true := fun x hx => List.all_eq_true.1 g2 x (by simpa using hx)
      have hnd : ∀ c, o.op ≠ .defer c := fun c e => by rw [e] at g3; cases g3
      split at h
      · rename_i hgd
        cases h
        exact ⟨rfl, hlt, resOp_ok hr, hop, hnd, .inl ⟨hgd, rfl⟩⟩
      · rename_i j b hgd
        split at h
        · rename_i s hs
          split at h
          · rename_i hsl
            cases h
            exact ⟨rfl, hlt, resOp_ok hr, hop, hnd, .inr ⟨j, b, s, hgd, rfl, hs, hsl⟩⟩
          · cases h
        · cases h
    · cases h
  · cases h
def resItems (P : Program) (N : Nat) (ops : Array Oper) : List Oper → Option (List Item)
  | [] => some []
  | o :: r => match resItem P N ops o, resItems P N ops r with
    | some it, some its => some (it :: its)
    | _, _ => none
theorem resItems_ok {N : Nat} {ops : Array Oper} : ∀ {l : List Oper} {its : List Item}, resItems P N ops l = some its → its.length = l.length ∧ ∀ i (h1 : i < its.length) (h2 : i < l.length), ItemOk P N ops l[i] its[i]
  | [], its, h => by simp [resItems] at h; subst h; exact ⟨rfl, fun i h1 => absurd h1 (by simp)⟩
  | o :: l, its, h => by
    simp only [resItems] at h
    split at h
    · rename_i it its0 h1 h2
      cases h
      obtain ⟨g1, g2⟩ := resItems_ok h2
      refine ⟨by simp [g1], fun i hi hj => ?_⟩
      cases i with
      | zero => exact resItem_ok h1
      | succ i => simpa using g2 i (by simpa using hi) (by simpa using hj)
    · cases h
/-- A region that draws, by the reader that is given. -/
def resCode (P : Program) (N : Nat) (rd : Array Oper → Option DReg) : Code → Option RCode
  | .skip => some .skip
  | .label _ => some .skip
  | .region _ ops false => (resItems P N ops ops.toList).map .reg
  | .region _ ops true => (rd ops).map .drw
  | .seq a b => match resCode P N rd a, resCode P N rd b with
    | some x, some y => some (.seq x y)
    | _, _ => none
  | .cond c a b => if okOpnd c then match resCode P N rd a, resCode P N rd b with
      | some x, some y => some (.cond c x y)
      | _, _ => none
    else none
  | .block id c => (resCode P N rd c).map (.block id)
  | .loop c => (resCode P N rd c).map .loop
  | .exit id => some (.exit id)
  | .ret => some .ret
  | _ => none
theorem resCode_ok {N : Nat} {rd : Array Oper → Option DReg} (hrd : ∀ ops d, rd ops = some d → DOk P N ops d) : ∀ {c : Code} {r : RCode}, resCode P N rd c = some r → CodeOk P N c r := by
  intro c
  induction c with
  | skip => intro r h; cases h; exact .skip
  | label l => intro r h; cases h; exact .label
  | region id ops draw =>
    intro r h
    cases draw with
    | false =>
      simp only [resCode] at h
      cases hi : resItems P N ops ops.toList with
      | none => rw [hi] at h; cases h
      | some its =>
        rw [hi] at h
        cases h
        obtain ⟨g1, g2⟩ := resItems_ok hi
        exact .reg (by simpa using g1) fun i h1 h2 => by have := g2 i h1 (by simpa using h2); rwa [Array.getElem_toList] at this
    | true =>
      simp only [resCode] at h
      cases hi : rd ops with
      | none => rw [hi] at h; cases h
      | some d => rw [hi] at h; cases h; exact .drw (hrd ops d hi)
  | seq a b iha ihb =>
    intro r h
    simp only [resCode] at h
    split at h
    · rename_i x y hx hy; cases h; exact .seq (iha hx) (ihb hy)
    · cases h
  | cond c a b iha ihb =>
    intro r h
    simp only [resCode] at h
    split at h
    · rename_i hc
      split at h
      · rename_i x y hx hy; cases h; exact .cond hc (iha hx) (ihb hy)
      · cases h
    · cases h
  | block id c ih =>
    intro r h
    simp only [resCode] at h
    cases hc : resCode P N rd c with
    | none => rw [hc] at h; cases h
    | some x => rw [hc] at h; cases h; exact .block (ih hc)
  | loop c ih =>
    intro r h
    simp only [resCode] at h
    cases hc : resCode P N rd c with
    | none => rw [hc] at h; cases h
    | some x => rw [hc] at h; cases h; exact .loop (ih hc)
  | exit id => intro r h; cases h; exact .exit
  | ret => intro r h; cases h; exact .ret
  | _ => intro r h; simp [resCode] at h
def resRes (P : Program) : List ResultVar → Option (List RRes)
  | [] => some []
  | r :: rs => match (match r with
      | .tmp t => some (.tmp t)
      | .cell a t => match P.underlying t with
        | some d => if isAggD d then (szOf P t).map fun n => .lda n a else some (.ld a)
        | none => none : Option RRes), resRes P rs with
    | some q, some qs => some (q :: qs)
    | _, _ => none
theorem resRes_ok : ∀ {rs : List ResultVar} {qs : List RRes}, resRes P rs = some qs → ResOks P rs qs
  | [], qs, h => by simp [resRes] at h; subst h; exact .nil
  | r :: rs, qs, h => by
    simp only [resRes] at h
    split at h
    · rename_i q qs0 h1 h2
      cases h
      refine .cons ?_ (resRes_ok h2)
      cases r with
      | tmp t => simp at h1; subst h1; exact .tmp
      | cell a t =>
        simp only at h1
        split at h1
        · rename_i d hd
          split at h1
          · rename_i ha
            cases hs : szOf P t with
            | none => rw [hs] at h1; cases h1
            | some n => rw [hs] at h1; cases h1; exact .lda hd (by cases d <;> first | rfl | cases ha) hs
          · rename_i ha
            cases h1
            exact .ld hd (by cases d <;> first | rfl | exact absurd rfl ha)
        · cases h1
    · cases h
def resFunc (P : Program) (rd : Nat → Array Oper → Option DReg) (f : FuncId) : Option RFunc :=
  if callable P f then match P.funcs[f]? with
    | some fn => match fn.body with
      | some c => match resCode P fn.ntmps (rd fn.ntmps) c, resRes P fn.results.toList with
        | some r, some q => some ⟨fn.ntmps, q, r⟩
        | _, _ => none
      | none => none
    | none => none
  else none
theorem resFunc_ok {rd : Nat → Array Oper → Option DReg} (hrd : ∀ N ops d, rd N ops = some d → DOk P N ops d) {f : FuncId} {rf : RFunc} (h : resFunc P rd f = some rf) : FuncOk P f rf := by
  unfold resFunc at h
  split at h
  · rename_i hc
    split at h
    · rename_i fn hf
      split at h
      · rename_i c hb
        split at h
        · rename_i r q hr hq
          cases h
          exact ⟨hc, fn, c, hf, hb, rfl, resCode_ok (hrd _) hr, resRes_ok hq⟩
        · cases h
      · cases h
    · cases h
  · cases h
end Can
end Go.Proofs.Ytmpojphjongdcaa
