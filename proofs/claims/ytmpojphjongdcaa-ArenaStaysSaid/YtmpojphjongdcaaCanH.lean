/- Canonical runs: one operation of a region. Over any program. -/
import Derived.Test.YtmpojphjongdcaaCanG
import Derived.CallsIn
import Derived.OrdersIn
namespace Go.Proofs.Ytmpojphjongdcaa
namespace Can
open Go Go.RowKit
set_option linter.unusedSimpArgs false
set_option linter.unusedVariables false
variable {P : Program} {B : Nat}

inductive ROp where
  | p (x : POp)
  | l (x : LOp)
  | a (x : AOp)
  | w (x : WOp)
  | call (f : FuncId) (args : List Operand)
  | callv (g : Operand) (args : List Operand)
structure Item where
  dst : Option Nat
  op : ROp
  guard : Option (Nat × Bool)
abbrev Fr := Nat → Value
def evF (fr : Fr) : Operand → Value
  | .tmp t => fr t
  | .const v => v
  | .global g => .pointer (some ⟨g, 0, none⟩)
  | .func f => .func (.func f) #[] #[]
def putF (fr : Fr) : Option Nat → Value → Fr
  | none, _ => fr
  | some d, v => fun t => if t = d then v else fr t
structure Hd where
  call : FuncId → List Value → CH → Option (Value × CH)
  round : Nat → List Value → CH → Option (Value × CH)
def skipV : Value := .chan none
/-- The value and the memory behind an operation. -/
def rop (h : Hd) (fr : Fr) (H : CH) : ROp → Option (Value × CH)
  | .p x => (pop (evF fr) x).map fun v => (v, H)
  | .l x => (lop H (evF fr) x).map fun v => (v, H)
  | .a x => (aop (evF fr) x).map fun (cs, e, k, mk) => (akV mk H.nx, H.new (.cells cs e k))
  | .w x => wop H (evF fr) x
  | .call f args => h.call f (args.map (evF fr)) H
  | .callv g args => match evF fr g with
    | .func (.func f) _ caps => h.call f (args.map (evF fr) ++ caps.toList) H
    | .func (.yield l) _ _ => h.round l (args.map (evF fr)) H
    | _ => none
def wantedF (fr : Fr) : Option (Nat × Bool) → Option Bool
  | none => some true
  | some (s, b) => match fr s with
    | .bool c => some (c == b)
    | .chan none => some false
    | _ => none
def stepI (h : Hd) (it : Item) (fr : Fr) (H : CH) : Option (Fr × CH) :=
  match wantedF fr it.guard with
  | some true => (rop h fr H it.op).map fun (v, H') => (putF fr it.dst v, H')
  | some false => some (putF fr it.dst skipV, H)
  | none => none

def FR (β : Nat → Ent) (N : Nat) (fr : Fr) (a : Act) : Prop := N ≤ a.tmps.size ∧ ∀ t, VR β (fr t) (a.tmps.getD t undef)
theorem FR.mono {β β' : Nat → Ent} {N : Nat} {fr : Fr} {a : Act} (h : FR β N fr a) (hx : EntExt β β') : FR β' N fr a := ⟨h.1, fun t => (h.2 t).mono hx⟩
theorem FR.put {β : Nat → Ent} {N : Nat} {fr : Fr} {a : Act} (h : FR β N fr a) {d : Option Nat} (hd : ∀ x, d = some x → x < N) {v v' : Value} (hv : VR β v v') : FR β N (putF fr d v) (a.put d v') := by
  cases d with
  | none => exact h
  | some x =>
    have hx := hd x rfl
    refine ⟨by simpa [Act.put] using h.1, fun t => ?_⟩
    simp only [putF, Act.put]
    by_cases e : t = x
    · subst e
      have : t < a.tmps.size := Nat.lt_of_lt_of_le hx h.1
      simp [this]; exact hv
    · simp only [if_neg e]
      have := h.2 t
      simpa [Array.getElem?_setIfInBounds_ne (show x ≠ t from fun g => e g.symm)] using this
/-- An operand of which the relation can be told. -/
def closedV : Value → Bool
  | .bool _ | .int _ _ | .float _ _ | .string _ | .pointer none | .slice none 0 0 | .nilFunc | .nilIface | .map none => true
  | _ => false
def closedC : List Value → Bool := fun l => l.all closedV
def closedW : Value → Bool
  | .agg cs => closedC cs.toList
  | v => closedV v
theorem closedV_rel {v : Value} (h : closedV v = true) (β : Nat → Ent) : VR β v v := by
  unfold closedV at h
  split at h <;> first | (constructor; done) | cases h
theorem closedC_rel {l : List Value} (h : closedC l = true) (β : Nat → Ent) : VRs β l l :=
  ⟨rfl, fun i v hv => ⟨v, hv, closedV_rel (List.all_eq_true.1 h v (List.mem_of_getElem? hv)) β⟩⟩
theorem closedW_rel {v : Value} (h : closedW v = true) (β : Nat → Ent) : VR β v v := by
  unfold closedW at h
  split at h
  · rename_i cs
    exact .agg rfl (VRs.arr.1 (closedC_rel (l := cs.toList) h β)).2
  · exact closedV_rel h β
def okOpnd : Operand → Bool
  | .tmp _ => true
  | .const v => closedW v
  | .func _ => true
  | .global _ => false
theorem evF_rel {β : Nat → Ent} {N : Nat} {fr : Fr} {a : Act} (h : FR β N fr a) {x : Operand} (hx : okOpnd x = true) : VR β (evF fr x) (a.eval x) := by
  cases x with
  | tmp t => exact h.2 t
  | const v => exact closedW_rel hx β
  | func f => exact .fn f rfl fun i h1 h2 => absurd h1 (by simp)
  | global g => cases hx
def callable (P : Program) (f : FuncId) : Bool :=
  match P.funcs[f]? with
  | some fn => fn.body.isSome && !(fn.name == "runtime.NumGoroutine")
  | none => false
theorem run_callFunc {f : FuncId} (h : callable P f = true) (args : Array Value) (w : World) : (callFunc f args).run P w = .ok (.enter f args) w := by
  unfold callable at h
  split at h
  · rename_i fn hf
    simp only [Bool.and_eq_true, Bool.not_eq_true'] at h
    have hb : fn.body.isNone = false := by cases hfb : fn.body <;> simp_all
    have hn : ¬ (fn.name = "runtime.NumGoroutine") := by simpa using h.2
    unfold callFunc
    simp only [Sem.run_bind, program, Sem.run, Result.andThen_ok, hf]
    rw [if_neg (by simpa using hn), if_neg (by simp [hb])]
    rfl
  · cases h
/-- The fence: all is let in; in a round or in none. -/
def Fn (ro : Option Nat) : Fence := { Fence.wide with round := ro }
theorem callsIn_Fn {ro : Option Nat} {n : Nat} {f : FuncId} {args : Array Value} {w : World} {R : Ending → World → Prop} (h : CallsIn Fence.wide 0 P f args w R) : CallsIn (Fn ro) n P f args w R :=
  ⟨trivial, fun cs _ => h.2 cs (room_wide _)⟩
theorem roundIn_Fn {ro : Option Nat} {n : Nat} {l : Nat} {f : FuncId} {tmps : Array Value} {asg body : Code} {w : World} {R : Ending → World → Prop} (h : RoundIn Fence.wide 0 P l f tmps asg body w R) : RoundIn (Fn ro) n P l f tmps asg body w R :=
  ⟨trivial, fun c cs _ => h.2 c cs (room_wide _)⟩
/-- The handlers are sound. -/
def HS (P : Program) (B : Nat) (h : Hd) : Prop := (∀ f args H v H', h.call f args H = some (v, H') → callable P f = true ∧ ∀ β w (args' : List Value), Sim P B β H w → VRs β args args' →
  CallsIn Fence.wide 0 P f args'.toArray w fun e w' => ∃ v' β', e = .returned v' ∧ VR β' v v' ∧ Sim P B β' H' w' ∧ Evo β w β' w') ∧
  ∀ l args H v H', h.round l args H = some (v, H') → ∀ β w b (args' : List Value), Sim P B β H w → β l = .loop b → VRs β args args' →
  ∃ fn tmps asg body, (Instr.yield b args'.toArray).run P w = .ok (.round b fn tmps asg body) w ∧ RoundIn Fence.wide 0 P b fn tmps asg body w fun e w' => ∃ v' β', e = .returned v' ∧ VR β' v v' ∧ Sim P B β' H' w' ∧ Evo β w β' w'
/-- What an operation must be for its canonical form. -/
inductive OpOk (P : Program) (op : Op) : ROp → Prop where
  | p {x : POp} (h : PSound P op x) : OpOk P op (.p x)
  | l {x : LOp} (h : LSound P op x) : OpOk P op (.l x)
  | a {x : AOp} (h : ASound P op x) : OpOk P op (.a x)
  | w {x : WOp} (h : WSound P op x) : OpOk P op (.w x)
  | call {f : FuncId} {args : Array Operand} {ts : Array TypeId} (h : op = .call { callee := .value (.func f), args, argTypes := ts }) : OpOk P op (.call f args.toList)
  | callv {g : Operand} {args : Array Operand} {ts : Array TypeId} (h : op = .call { callee := .value g, args, argTypes := ts }) : OpOk P op (.callv g args.toList)
structure ItemOk (P : Program) (N : Nat) (ops : Array Oper) (o : Oper) (it : Item) : Prop where
  dst : it.dst = o.dst
  lt : ∀ d, o.dst = some d → d < N
  op : OpOk P o.op it.op
  opnds : ∀ x ∈ o.op.operands, okOpnd x = true
  nodefer : ∀ c, o.op ≠ .defer c
  guard : (o.guard = none ∧ it.guard = none) ∨ ∃ j b s, o.guard = some (j, b) ∧ it.guard = some (s, b) ∧ (ops[j]?).bind (·.dst) = some s ∧ s < N
theorem wanted_rel {β : Nat → Ent} {N : Nat} {fr : Fr} {a : Act} {ops : Array Oper} {o : Oper} {it : Item} (hok : ItemOk P N ops o it) (hf : FR β N fr a) {b : Bool} (h : wantedF fr it.guard = some b) : Region.wanted o (yielded ops a.tmps) = b := by
  rcases hok.guard with ⟨g1, g2⟩ | ⟨j, c, s, g1, g2, g3, g4⟩
  · rw [g2] at h
    simp only [wantedF, Option.some.injEq] at h
    simp [Region.wanted, g1, ← h]
  · rw [g2] at h
    have hlt : s < a.tmps.size := Nat.lt_of_lt_of_le g4 hf.1
    have hv := hf.2 s
    simp only [wantedF] at h
    simp only [Region.wanted, g1, yielded, g3, Option.bind_some]
    rw [Array.getD_eq_getD_getElem?, Array.getElem?_eq_getElem hlt, Option.getD_some] at hv
    rw [Array.getElem?_eq_getElem hlt]
    split at h
    · rename_i q hq
      rw [hq] at hv
      rw [hv.bool_inv]
      simp only [Option.some.injEq] at h
      rw [← h]
      cases q <;> cases c <;> rfl
    · rename_i hq
      rw [hq] at hv
      have : a.tmps[s] = .tuple #[] := by generalize a.tmps[s] = q at hv; cases hv; rfl
      rw [this]
      simp only [Option.some.injEq] at h
      rw [← h]
      rfl
    · cases h
/-- One operation: what its canonical form does, it does. -/
theorem item_sound {h : Hd} (hh : HS P B h) {ro : Option Nat} {N : Nat} {ops : Array Oper} {o : Oper} {it : Item} (hok : ItemOk P N ops o it) {β : Nat → Ent} {fr fr' : Fr} {H H' : CH} {a : Act} {w : World} (hS : Sim P B β H w) (hf : FR β N fr a)
    (hw : wantedF fr it.guard = some true) (hr : (rop h fr H it.op).map (fun (x : Value × CH) => (putF fr it.dst x.1, x.2)) = some (fr', H')) {K : Act → World → Prop} {Q : Exit → Act → World → Prop}
    (hK : ∀ β' w' v', Sim P B β' H' w' → Evo β w β' w' → FR β' N fr' (a.put o.dst v') → K (a.put o.dst v') w') : o.wpIn (Fn ro) 0 P a w K Q := by
  refine ⟨fun f _ => trivial, ?_⟩
  rw [show (Fn ro).round = ro from rfl, Oper.semAt_eq ro _ _ hok.nodefer]
  cases hrop : rop h fr H it.op with
  | none => rw [hrop] at hr; cases hr
  | some r =>
    obtain ⟨v, H1⟩ := r
    rw [hrop] at hr
    simp only [Option.map_some, Option.some.injEq, Prod.mk.injEq] at hr
    obtain ⟨rfl, rfl⟩ := hr
    have hv : ∀ x ∈ o.op.operands, VR β (evF fr x) (a.eval x) := fun x hx => evF_rel hf (hok.opnds x hx)
    have hd : ∀ x, it.dst = some x → x < N := fun x hx => hok.lt x (by rw [← hok.dst]; exact hx)
    have hrel : ∀ args : List Operand, (∀ x ∈ args, VR β (evF fr x) (a.eval x)) → VRs β (args.map (evF fr)) (args.map a.eval) := by
      intro args hargs
      refine ⟨by simp, fun i u hu => ?_⟩
      rw [List.getElem?_map] at hu ⊢
      cases hx : args[i]? with
      | none => rw [hx] at hu; cases hu
      | some x => rw [hx] at hu; cases hu; exact ⟨_, rfl, hargs x (List.mem_of_getElem? hx)⟩
    have hop := hok.op
    generalize hio : it.op = io at hop hrop
    cases hop with
    | p hp =>
      rename_i x
      simp only [rop] at hrop
      cases hpx : pop (evF fr) x with
      | none => rw [hpx] at hrop; cases hrop
      | some u =>
        rw [hpx] at hrop
        cases hrop
        obtain ⟨v', hrun, hvr⟩ := hp β _ _ o v rfl hv hpx
        rw [hrun w]
        exact hK β w _ hS (Evo.refl β w) (by rw [← hok.dst]; exact hf.put hd hvr)
    | l hl =>
      rename_i x
      simp only [rop] at hrop
      cases hpx : lop H (evF fr) x with
      | none => rw [hpx] at hrop; cases hrop
      | some u =>
        rw [hpx] at hrop
        cases hrop
        obtain ⟨v', hrun, hvr⟩ := hl B β H w _ _ o v rfl hv hS hpx
        rw [hrun]
        exact hK β w _ hS (Evo.refl β w) (by rw [← hok.dst]; exact hf.put hd hvr)
    | a ha =>
      rename_i x
      simp only [rop] at hrop
      cases hpx : aop (evF fr) x with
      | none => rw [hpx] at hrop; cases hrop
      | some u =>
        obtain ⟨cs, e, k, mk⟩ := u
        rw [hpx] at hrop
        cases hrop
        obtain ⟨hk, sz, hsz, hrun⟩ := ha β _ _ o cs e k mk rfl hv hpx
        obtain ⟨cs', frz, w', v', h1, h2, h3, h4, h5, h6, h7, h8, h9, h10⟩ := hrun w
        obtain ⟨hS', hE'⟩ := hS.alloc k hk hsz h6 h7 h8 h9 h2 h3 h4 h5
        rw [h1]
        refine hK _ w' _ hS' hE' ?_
        rw [← hok.dst]
        refine (hf.mono hE'.ext).put hd ?_
        cases mk with
        | ptr => simp only [AKr] at h10; subst h10; exact .ptr upd_same
        | sl n c =>
          obtain ⟨c', rfl, q1, q2, q3, q4, q5⟩ := h10
          exact .sl upd_same q1 q2 q3 (fun _ => by simpa using q4) q5
    | w hw' =>
      rename_i x
      obtain ⟨β', w', v', n, h1, h2, h3, h4, h5⟩ := hw' B β H w _ _ o v _ rfl hv hS hrop
      rw [h1]
      rcases h2 with rfl | ⟨rfl, rfl⟩
      · exact hK β' w' _ h4 h5 (by rw [← hok.dst]; exact (hf.mono h5.ext).put hd h3)
      · exact hK β' w' _ h4 h5 (by rw [← hok.dst]; exact (hf.mono h5.ext).put hd h3)
    | call he =>
      rename_i f args ts
      simp only [rop] at hrop
      obtain ⟨hc, hcall⟩ := hh.1 _ _ _ _ _ hrop
      have hargs : VRs β (args.toList.map (evF fr)) (args.toList.map a.eval) := hrel _ fun x hx => hv x (by rw [he]; simp [Op.operands, Call.operands]; exact .inr (by simpa using hx))
      have hrun : (execOp a.eval o).run P w = .ok (.enter f (args.map a.eval)) w := by
        simp only [execOp, he, resolve, Act.eval, Deferred.ofValue, Sem.run_bind, Sem.run_pure, Result.andThen_ok, invoke]
        rw [run_callFunc hc]
        simp
      rw [hrun]
      refine ⟨fun h => absurd h (by simp [Fn, Fence.wide]), callsIn_Fn ?_⟩
      have := hcall β w _ hS hargs
      have e1 : (args.toList.map a.eval).toArray = args.map a.eval := by apply Array.ext'; simp
      rw [e1] at this
      refine this.mono ?_
      rintro e w' ⟨v', β', rfl, g1, g2, g3⟩
      exact hK β' w' _ g2 g3 (by rw [← hok.dst]; exact (hf.mono g3.ext).put hd g1)
    | callv he =>
      rename_i g args ts
      simp only [rop] at hrop
      split at hrop
      · rename_i f fst caps hg
        have hgv := hv g (by rw [he]; simp [Op.operands, Call.operands])
        rw [hg] at hgv
        obtain ⟨caps', hg', hsz, hcaps⟩ : ∃ caps', a.eval g = .func (.func f) #[] caps' ∧ caps.size = caps'.size ∧ ∀ i (h1 : i < caps.size) (h2 : i < caps'.size), VR β caps[i] caps'[i] := by
          generalize a.eval g = q at hgv
          cases hgv with
          | fn _ h hi => exact ⟨_, rfl, h, hi⟩
        obtain ⟨hc, hcall⟩ := hh.1 _ _ _ _ _ hrop
        have hargs : VRs β (args.toList.map (evF fr)) (args.toList.map a.eval) := hrel _ fun x hx => hv x (by rw [he]; simp [Op.operands, Call.operands]; exact .inr (by simpa using hx))
        have hrun : (execOp a.eval o).run P w = .ok (.enter f (args.map a.eval ++ caps')) w := by
          simp only [execOp, he, resolve, hg', Deferred.ofValue, Sem.run_bind, Sem.run_pure, Result.andThen_ok, invoke]
          rw [run_callFunc hc]
          simp
        rw [hrun]
        refine ⟨fun h => absurd h (by simp [Fn, Fence.wide]), callsIn_Fn ?_⟩
        have := hcall β w _ hS (hargs.append (VRs.arr.2 ⟨hsz, hcaps⟩))
        have e1 : (args.toList.map a.eval ++ caps'.toList).toArray = args.map a.eval ++ caps' := by apply Array.ext'; simp
        rw [e1] at this
        refine this.mono ?_
        rintro e w' ⟨v', β', rfl, g1, g2, g3⟩
        exact hK β' w' _ g2 g3 (by rw [← hok.dst]; exact (hf.mono g3.ext).put hd g1)
      · rename_i l fst caps hg
        have hgv := hv g (by rw [he]; simp [Op.operands, Call.operands])
        rw [hg] at hgv
        obtain ⟨b, hg', hlb⟩ : ∃ b, a.eval g = .func (.yield b) #[] #[] ∧ β l = .loop b := by
          generalize a.eval g = q at hgv
          cases hgv with
          | yld h => exact ⟨_, rfl, h⟩
        have hargs : VRs β (args.toList.map (evF fr)) (args.toList.map a.eval) := hrel _ fun x hx => hv x (by rw [he]; simp [Op.operands, Call.operands]; exact .inr (by simpa using hx))
        obtain ⟨fn, tmps, asg, body, hy, hro⟩ := hh.2 _ _ _ _ _ hrop β w b _ hS hlb hargs
        have e1 : (args.toList.map a.eval).toArray = args.map a.eval := by apply Array.ext'; simp
        rw [e1] at hy
        have hrun : (execOp a.eval o).run P w = .ok (.round b fn tmps asg body) w := by
          simp only [execOp, he, resolve, hg', Deferred.ofValue, Sem.run_bind, Sem.run_pure, Result.andThen_ok, invoke, Array.empty_append]
          exact hy
        rw [hrun]
        refine ⟨fun h => absurd h (by simp [Fn, Fence.wide]), roundIn_Fn ?_⟩
        refine hro.mono ?_
        rintro e w' ⟨v', β', rfl, g1, g2, g3⟩
        exact hK β' w' _ g2 g3 (by rw [← hok.dst]; exact (hf.mono g3.ext).put hd g1)
      · cases hrop
end Can
end Go.Proofs.Ytmpojphjongdcaa
