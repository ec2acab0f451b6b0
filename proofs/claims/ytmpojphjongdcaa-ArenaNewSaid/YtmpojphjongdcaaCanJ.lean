/- Canonical runs: functions. Over any program. -/
import Derived.Test.YtmpojphjongdcaaCanI
namespace Go.Proofs.Ytmpojphjongdcaa
namespace Can
open Go Go.RowKit
set_option linter.unusedSimpArgs false
set_option linter.unusedVariables false
variable {P : Program} {B : Nat}

inductive RRes where
  | tmp (t : Nat)
  | ld (t : Nat)
  | lda (n t : Nat)
def resV (fr : Fr) (H : CH) : RRes → Option Value
  | .tmp t => some (fr t)
  | .ld t => lop H (evF fr) (.ld (.tmp t))
  | .lda n t => lop H (evF fr) (.lda n (.tmp t))
def resL (fr : Fr) (H : CH) : List RRes → Option (List Value)
  | [] => some []
  | r :: rs => match resV fr H r, resL fr H rs with
    | some v, some vs => some (v :: vs)
    | _, _ => none
def tupleV : List Value → Value
  | [v] => v
  | vs => .tuple vs.toArray
structure RFunc where
  ntmps : Nat
  res : List RRes
  body : RCode
structure Tbl where
  fn : FuncId → Option RFunc
  ext : FuncId → Bool
  xt : Hd
noncomputable def evFn (T : Tbl) : Nat → FuncId → List Value → CH → Option (Value × CH)
  | 0, _, _, _ => none
  | n + 1, f, args, H => if T.ext f then T.xt.call f args H else match T.fn f with
    | some rf => match evR ⟨evFn T n⟩ n rf.body (fun t => args.getD t undef) H with
      | some (.normal, fr', H') => (resL fr' H' rf.res).map fun vs => (tupleV vs, H')
      | some (.ret, fr', H') => (resL fr' H' rf.res).map fun vs => (tupleV vs, H')
      | _ => none
    | none => none

inductive ResOk (P : Program) : ResultVar → RRes → Prop where
  | tmp {t : Nat} : ResOk P (.tmp t) (.tmp t)
  | ld {a t : Nat} {d : TypeDesc} (h : P.underlying t = some d) (hd : (match d with | .struct _ | .array _ _ => true | _ => false) = false) : ResOk P (.cell a t) (.ld a)
  | lda {a t n : Nat} {d : TypeDesc} (h : P.underlying t = some d) (hd : (match d with | .struct _ | .array _ _ => true | _ => false) = true) (hn : (P.info? t).map (·.size) = some n) : ResOk P (.cell a t) (.lda n a)
inductive ResOks (P : Program) : List ResultVar → List RRes → Prop where
  | nil : ResOks P [] []
  | cons {r : ResultVar} {q : RRes} {rs : List ResultVar} {qs : List RRes} (h : ResOk P r q) (hs : ResOks P rs qs) : ResOks P (r :: rs) (q :: qs)
structure FuncOk (P : Program) (f : FuncId) (rf : RFunc) : Prop where
  call : callable P f = true
  ok : ∃ fn c, P.funcs[f]? = some fn ∧ fn.body = some c ∧ fn.ntmps = rf.ntmps ∧ CodeOk P rf.ntmps c rf.body ∧ ResOks P fn.results.toList rf.res
def resSem (tmps : Array Value) : ResultVar → Sem Value
  | .tmp t => pure (tmps.getD t undef)
  | .cell a t => do loadVar t (← asAddr (tmps.getD a undef))
theorem res_sound {β : Nat → Ent} {H : CH} {w : World} {fr : Fr} {N : Nat} {a : Act} (hS : Sim P B β H w) (hf : FR β N fr a) : ∀ {rs : List ResultVar} {qs : List RRes} {vs : List Value}, ResOks P rs qs → resL fr H qs = some vs →
    ∃ vs', (rs.mapM (resSem a.tmps)).run P w = .ok vs' w ∧ VRs β vs vs' := by
  intro rs qs vs h
  induction h generalizing vs with
  | nil => intro hr; simp only [resL, Option.some.injEq] at hr; subst hr; exact ⟨[], rfl, VRs.nil β⟩
  | @cons r q rs qs hq hqs ih =>
    intro hr
    simp only [resL] at hr
    split at hr
    · rename_i v vs0 h1 h2
      cases hr
      obtain ⟨vs', g1, g2⟩ := ih h2
      have hv : ∃ v', (resSem a.tmps r).run P w = .ok v' w ∧ VR β v v' := by
        cases hq with
        | @tmp t =>
          simp only [resV, Option.some.injEq] at h1
          subst h1
          exact ⟨_, rfl, hf.2 t⟩
        | @ld s t d h hd =>
          simp only [resV, lop, evF] at h1
          have hx := hf.2 s
          split at h1
          · rename_i l oo ha
            split at h1
            · rename_i cs e k hob
              rw [ha] at hx
              obtain ⟨b, hxv, hc⟩ := hS.load hx hob
              obtain ⟨u, hu, hvu⟩ := hc _ _ h1
              refine ⟨u, ?_, hvu⟩
              simp only [resSem, hxv, asAddr, loadVar, Sem.run_bind, Sem.run_pure, Result.andThen_ok, run_isAgg_no h hd, Bool.false_eq_true, if_false]
              simp [Go.load, Sem.run, hu]
            · cases h1
          · cases h1
        | @lda s t n d h hd hn =>
          have hx := hf.2 s
          obtain ⟨u, hu, hr⟩ := lsound_lda (x := .tmp s) h hd hn B β H w (evF fr) (fun _ => a.tmps.getD s undef) { dst := none, op := .load t (.tmp s), type := 0, pos := "", after := #[], guard := none } v rfl (fun x hx' => by simp [Op.operands] at hx'; subst hx'; exact hx) hS h1
          refine ⟨u, ?_, hr⟩
          simp only [resSem]
          simp only [execOp, Instr.loadAt, Sem.run_bind] at hu
          generalize hq : a.tmps.getD s undef = q at hu ⊢
          rw [hq] at hx
          cases q with
          | pointer p =>
            cases p with
            | none => simp [Instr.sureAddr, Sem.run, stuck] at hu
            | some p =>
              simp only [Instr.sureAddr, Sem.run_pure, Result.andThen_ok] at hu
              simp only [asAddr, Sem.run_bind, Sem.run_pure, Result.andThen_ok]
              cases hl : (loadVar t p).run P w with
              | ok y w1 => rw [hl] at hu; simp only [Result.andThen_ok, Result.ok.injEq, Next.value.injEq] at hu; rw [hu.1, hu.2]
              | halt y w1 => rw [hl] at hu; simp [Result.andThen] at hu
          | _ => simp [Instr.sureAddr, Sem.run, stuck, Result.andThen] at hu
      obtain ⟨v', g3, g4⟩ := hv
      refine ⟨v' :: vs', ?_, g2.cons g4⟩
      simp only [List.mapM_cons, Sem.run_bind, g3, Result.andThen_ok, g1, Sem.run_pure]
    · cases hr
theorem results_sound {β : Nat → Ent} {H : CH} {w : World} {fr : Fr} {N : Nat} {a : Act} (hS : Sim P B β H w) (hf : FR β N fr a) {fn : Func} {qs : List RRes} {vs : List Value} (h : ResOks P fn.results.toList qs) (hr : resL fr H qs = some vs) :
    ∃ v', (results fn a.tmps).run P w = .ok v' w ∧ VR β (tupleV vs) v' := by
  obtain ⟨vs', h1, h2⟩ := res_sound hS hf h hr
  have hm : (fn.results.mapM (resSem a.tmps)).run P w = .ok vs'.toArray w := by
    rw [Array.mapM_eq_mapM_toList]
    simp only [Sem.run_map, h1, Result.andThen_ok]
  have hres : (results fn a.tmps).run P w = .ok (if g : vs'.toArray.size = 1 then vs'.toArray[0] else .tuple vs'.toArray) w := by
    have : results fn a.tmps = (do let vs ← fn.results.mapM (resSem a.tmps); pure (if h : vs.size = 1 then vs[0] else .tuple vs)) := rfl
    rw [this]
    simp only [Sem.run_bind, hm, Result.andThen_ok, Sem.run_pure]
  refine ⟨_, hres, ?_⟩
  match vs, vs', h2 with
  | [], [], _ => exact .undef _
  | [v], [v'], h2 =>
    obtain ⟨u, hu, hr⟩ := h2.2 0 v rfl
    simp at hu
    subst hu
    simpa [tupleV] using hr
  | v :: v2 :: vs, v' :: v2' :: vs', h2 =>
    have e : (tupleV (v :: v2 :: vs)) = .tuple (v :: v2 :: vs).toArray := rfl
    rw [e, dif_neg (by simp)]
    have := (VRs.arr (as := (v :: v2 :: vs).toArray) (bs := (v' :: v2' :: vs').toArray)).1 (by simpa using h2)
    exact .tuple this.1 this.2
  | [], _ :: _, h2 => exact absurd h2.1 (by simp)
  | [_], [], h2 => exact absurd h2.1 (by simp)
  | [_], _ :: _ :: _, h2 => exact absurd h2.1 (by simp)
  | _ :: _ :: _, [], h2 => exact absurd h2.1 (by simp)
  | _ :: _ :: _, [_], h2 => exact absurd h2.1 (by simp)

structure TblOk (P : Program) (B : Nat) (T : Tbl) : Prop where
  fn : ∀ f rf, T.fn f = some rf → FuncOk P f rf
  ext : HS P B T.xt
theorem fn_sound {T : Tbl} (hT : TblOk P B T) : ∀ n, HS P B ⟨evFn T n⟩
  | 0 => fun f args H v H' h => by simp [evFn] at h
  | n + 1 => fun f args H v H' h => by
    have ih := fn_sound hT n
    simp only [evFn] at h
    split at h
    · exact hT.ext f args H v H' h
    · split at h
      · rename_i rf hrf
        have hfo := hT.fn f rf hrf
        obtain ⟨fn, c, hfn, hbody, hnt, hcode, hres⟩ := hfo.ok
        refine ⟨hfo.call, fun β w args' hS hargs => ?_⟩
        refine callsIn_of_wp hfn hbody trivial ?_ rfl
        have hf : FR β rf.ntmps (fun t => args.getD t undef) { tmps := args'.toArray ++ Array.replicate (fn.ntmps - args'.toArray.size) undef, defers := [] } := by
          refine ⟨by simp; omega, fun t => ?_⟩
          simp only [List.getD, Array.getD_eq_getD_getElem?]
          by_cases ht : t < args'.length
          · have hta : t < args.length := by have := hargs.1; omega
            obtain ⟨v', h1, h2⟩ := hargs.2 t args[t] (by simp [hta])
            rw [Array.getElem?_append_left (by simpa using ht)]
            simp only [List.getElem?_toArray, h1, Option.getD_some, List.getElem?_eq_getElem hta]
            exact h2
          · have hta : args.length ≤ t := by have := hargs.1; omega
            rw [List.getElem?_eq_none hta]
            exact .undef _
        have fin : ∀ (x : CExit) (fr' : Fr) (K : CH), (x = .normal ∨ x = .ret) → evR ⟨evFn T n⟩ n rf.body (fun t => args.getD t undef) H = some (x, fr', K) → (resL fr' K rf.res).map (fun vs => (tupleV vs, K)) = some (v, H') →
            c.wpIn Fence.wide 0 P (bodyPost P fn fun e w' => ∃ v' β', e = .returned v' ∧ VR β' v v' ∧ Sim P B β' H' w' ∧ Evo β w β' w') { tmps := args'.toArray ++ Array.replicate (fn.ntmps - args'.toArray.size) undef, defers := [] } w := by
          intro x fr' K hx hrun hvs
          cases hvl : resL fr' K rf.res with
          | none => rw [hvl] at hvs; cases hvs
          | some vs =>
            rw [hvl] at hvs
            simp only [Option.map_some, Option.some.injEq, Prod.mk.injEq] at hvs
            obtain ⟨rfl, rfl⟩ := hvs
            refine code_sound (ro := none) ih hcode β _ fr' H K _ w x _ hS hf hrun fun β' w' a' q1 q2 q3 q4 => ?_
            obtain ⟨v', r1, r2⟩ := results_sound q1 q3 hres hvl
            rcases hx with rfl | rfl
            · exact ⟨q4, v', r1, v', β', rfl, r2, q1, q2⟩
            · exact ⟨q4, v', r1, v', β', rfl, r2, q1, q2⟩
        split at h
        · rename_i fr' K hrun
          exact fin .normal fr' K (.inl rfl) hrun h
        · rename_i fr' K hrun
          exact fin .ret fr' K (.inr rfl) hrun h
        · cases h
      · cases h
/-- What is found of a canonical run, the program does. -/
theorem calls_of_ev {T : Tbl} (hT : TblOk P B T) {n : Nat} {f : FuncId} {args : List Value} {H H' : CH} {v : Value} (h : evFn T n f args H = some (v, H')) {β : Nat → Ent} {w : World} {args' : List Value} (hS : Sim P B β H w) (ha : VRs β args args') :
    Calls P f args'.toArray w fun e w' => ∃ v' β', e = .returned v' ∧ VR β' v v' ∧ Sim P B β' H' w' ∧ Evo β w β' w' :=
  callsIn_wide.1 ((fn_sound hT n f args H v H' h).2 β w args' hS ha)
end Can
end Go.Proofs.Ytmpojphjongdcaa
