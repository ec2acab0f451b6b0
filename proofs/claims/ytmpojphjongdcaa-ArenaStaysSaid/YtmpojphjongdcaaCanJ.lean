/- Canonical runs: functions. Over any program. -/
import Derived.Test.YtmpojphjongdcaaCanI
namespace Go.Proofs.Ytmpojphjongdcaa
namespace Can
open Go Go.RowKit
set_option linter.unusedSimpArgs false
set_option linter.unusedVariables false
variable {P : Program} {B : Nat}

inductive RRes where
  | tmp (t : Nat)
  | ld (t : Nat)
  | lda (n t : Nat)
def resV (fr : Fr) (H : CH) : RRes → Option Value
  | .tmp t => some (fr t)
  | .ld t => lop H (evF fr) (.ld (.tmp t))
  | .lda n t => lop H (evF fr) (.lda n (.tmp t))
def resL (fr : Fr) (H : CH) : List RRes → Option (List Value)
  | [] => some []
  | r :: rs => match resV fr H r, resL fr H rs with
    | some v, some vs => some (v :: vs)
    | _, _ => none
def tupleV : List Value → Value
  | [v] => v
  | vs => .tuple vs.toArray
structure RFunc where
  ntmps : Nat
  res : List RRes
  body : RCode
structure Tbl where
  fn : FuncId → Option RFunc
  loop : Nat × Nat → Option (List Nat × RCode × RCode)
  ext : FuncId → Bool
  xt : Hd
/-- A loop over a function, by its key: its parameters, the assignment, the body. -/
def putPs (fr : Fr) (ps : List Nat) (args : List Value) : Fr := (ps.zip args).foldl (fun fr p => putF fr (some p.1) p.2) fr
def xPend : CExit → Option (Option Nat)
  | .normal => none
  | .ret => some none
  | .exit i => some (some i)
noncomputable def evH (T : Tbl) : Nat → Hd
  | 0 => ⟨fun _ _ _ => none, fun _ _ _ => none⟩
  | n + 1 => ⟨fun f args H => if T.ext f then T.xt.call f args H else match T.fn f with
    | some rf => match evR (evH T n) n rf.body (fun t => args.getD t undef) H with
      | some (.normal, fr', H') => (resL fr' H' rf.res).map fun vs => (tupleV vs, H')
      | some (.ret, fr', H') => (resL fr' H' rf.res).map fun vs => (tupleV vs, H')
      | _ => none
    | none => none, fun l args H => match H.ob l with
    | .loop .ready _ fr key => match T.loop key with
      | some (ps, asg, body) => if args.length = ps.length then match evR (evH T n) n asg (putPs fr ps args) H with
        | some (.normal, fr2, H2) => match H2.ob l with
          | .loop .ready pend fr0 key0 => match evR (evH T n) n body fr2 (H2.set l (.loop .busy pend fr0 key0)) with
            | some (x, _, H4) => match H4.ob l with
              | .loop _ _ fr5 key5 => some (.bool (xPend x).isNone, H4.set l (.loop (if (xPend x).isNone then .ready else .done) (xPend x) fr5 key5))
              | _ => none
            | none => none
          | _ => none
        | _ => none
        else none
      | none => none
    | _ => none⟩
noncomputable def evFn (T : Tbl) (n : Nat) : FuncId → List Value → CH → Option (Value × CH) := (evH T n).call

inductive ResOk (P : Program) : ResultVar → RRes → Prop where
  | tmp {t : Nat} : ResOk P (.tmp t) (.tmp t)
  | ld {a t : Nat} {d : TypeDesc} (h : P.underlying t = some d) (hd : (match d with | .struct _ | .array _ _ => true | _ => false) = false) : ResOk P (.cell a t) (.ld a)
  | lda {a t n : Nat} {d : TypeDesc} (h : P.underlying t = some d) (hd : (match d with | .struct _ | .array _ _ => true | _ => false) = true) (hn : (P.info? t).map (·.size) = some n) : ResOk P (.cell a t) (.lda n a)
inductive ResOks (P : Program) : List ResultVar → List RRes → Prop where
  | nil : ResOks P [] []
  | cons {r : ResultVar} {q : RRes} {rs : List ResultVar} {qs : List RRes} (h : ResOk P r q) (hs : ResOks P rs qs) : ResOks P (r :: rs) (q :: qs)
structure FuncOk (P : Program) (f : FuncId) (rf : RFunc) : Prop where
  call : callable P f = true
  ok : ∃ fn c, P.funcs[f]? = some fn ∧ fn.body = some c ∧ fn.ntmps = rf.ntmps ∧ CodeOk P rf.ntmps c rf.body ∧ ResOks P fn.results.toList rf.res
def resSem (tmps : Array Value) : ResultVar → Sem Value
  | .tmp t => pure (tmps.getD t undef)
  | .cell a t => do loadVar t (← asAddr (tmps.getD a undef))
theorem res_sound {β : Nat → Ent} {H : CH} {w : World} {fr : Fr} {N : Nat} {a : Act} (hS : Sim P B β H w) (hf : FR β N fr a) : ∀ {rs : List ResultVar} {qs : List RRes} {vs : List Value}, ResOks P rs qs → resL fr H qs = some vs →
    ∃ vs', (rs.mapM (resSem a.tmps)).run P w = .ok vs' w ∧ VRs β vs vs' := by
  intro rs qs vs h
  induction h generalizing vs with
  | nil => intro hr; simp only [resL, Option.some.injEq] at hr; subst hr; exact ⟨[], rfl, VRs.nil β⟩
  | @cons r q rs qs hq hqs ih =>
    intro hr
    simp only [resL] at hr
    split at hr
    · rename_i v vs0 h1 h2
      cases hr
      obtain ⟨vs', g1, g2⟩ := ih h2
      have hv : ∃ v', (resSem a.tmps r).run P w = .ok v' w ∧ VR β v v' := by
        cases hq with
        | @tmp t =>
          simp only [resV, Option.some.injEq] at h1
          subst h1
          exact ⟨_, rfl, hf.2 t⟩
        | @ld s t d h hd =>
          simp only [resV, lop, evF] at h1
          have hx := hf.2 s
          split at h1
          · rename_i l oo ha
            split at h1
            · rename_i cs e k hob
              rw [ha] at hx
              obtain ⟨b, hxv, hc⟩ := hS.load hx hob
              obtain ⟨u, hu, hvu⟩ := hc _ _ h1
              refine ⟨u, ?_, hvu⟩
              simp only [resSem, hxv, asAddr, loadVar, Sem.run_bind, Sem.run_pure, Result.andThen_ok, run_isAgg_no h hd, Bool.false_eq_true, if_false]
              simp [Go.load, Sem.run, hu]
            · cases h1
          · cases h1
        | @lda s t n d h hd hn =>
          have hx := hf.2 s
          obtain ⟨u, hu, hr⟩ := lsound_lda (x := .tmp s) h hd hn B β H w (evF fr) (fun _ => a.tmps.getD s undef) { dst := none, op := .load t (.tmp s), type := 0, pos := "", after := #[], guard := none } v rfl (fun x hx' => by simp [Op.operands] at hx'; subst hx'; exact hx) hS h1
          refine ⟨u, ?_, hr⟩
          simp only [resSem]
          simp only [execOp, Instr.loadAt, Sem.run_bind] at hu
          generalize hq : a.tmps.getD s undef = q at hu ⊢
          rw [hq] at hx
          cases q with
          | pointer p =>
            cases p with
            | none => simp [Instr.sureAddr, Sem.run, stuck] at hu
            | some p =>
              simp only [Instr.sureAddr, Sem.run_pure, Result.andThen_ok] at hu
              simp only [asAddr, Sem.run_bind, Sem.run_pure, Result.andThen_ok]
              cases hl : (loadVar t p).run P w with
              | ok y w1 => rw [hl] at hu; simp only [Result.andThen_ok, Result.ok.injEq, Next.value.injEq] at hu; rw [hu.1, hu.2]
              | halt y w1 => rw [hl] at hu; simp [Result.andThen] at hu
          | _ => simp [Instr.sureAddr, Sem.run, stuck, Result.andThen] at hu
      obtain ⟨v', g3, g4⟩ := hv
      refine ⟨v' :: vs', ?_, g2.cons g4⟩
      simp only [List.mapM_cons, Sem.run_bind, g3, Result.andThen_ok, g1, Sem.run_pure]
    · cases hr
theorem results_sound {β : Nat → Ent} {H : CH} {w : World} {fr : Fr} {N : Nat} {a : Act} (hS : Sim P B β H w) (hf : FR β N fr a) {fn : Func} {qs : List RRes} {vs : List Value} (h : ResOks P fn.results.toList qs) (hr : resL fr H qs = some vs) :
    ∃ v', (results fn a.tmps).run P w = .ok v' w ∧ VR β (tupleV vs) v' := by
  obtain ⟨vs', h1, h2⟩ := res_sound hS hf h hr
  have hm : (fn.results.mapM (resSem a.tmps)).run P w = .ok vs'.toArray w := by
    rw [Array.mapM_eq_mapM_toList]
    simp only [Sem.run_map, h1, Result.andThen_ok]
  have hres : (results fn a.tmps).run P w = .ok (if g : vs'.toArray.size = 1 then vs'.toArray[0] else .tuple vs'.toArray) w := by
    have : results fn a.tmps = (do let vs ← fn.results.mapM (resSem a.tmps); pure (if h : vs.size = 1 then vs[0] else .tuple vs)) := rfl
    rw [this]
    simp only [Sem.run_bind, hm, Result.andThen_ok, Sem.run_pure]
  refine ⟨_, hres, ?_⟩
  match vs, vs', h2 with
  | [], [], _ => exact .undef _
  | [v], [v'], h2 =>
    obtain ⟨u, hu, hr⟩ := h2.2 0 v rfl
    simp at hu
    subst hu
    simpa [tupleV] using hr
  | v :: v2 :: vs, v' :: v2' :: vs', h2 =>
    have e : (tupleV (v :: v2 :: vs)) = .tuple (v :: v2 :: vs).toArray := rfl
    rw [e, dif_neg (by simp)]
    have := (VRs.arr (as := (v :: v2 :: vs).toArray) (bs := (v' :: v2' :: vs').toArray)).1 (by simpa using h2)
    exact .tuple this.1 this.2
  | [], _ :: _, h2 => exact absurd h2.1 (by simp)
  | [_], [], h2 => exact absurd h2.1 (by simp)
  | [_], _ :: _ :: _, h2 => exact absurd h2.1 (by simp)
  | _ :: _ :: _, [], h2 => exact absurd h2.1 (by simp)
  | _ :: _ :: _, [_], h2 => exact absurd h2.1 (by simp)

structure LoopOk (P : Program) (key : Nat × Nat) (ps : List Nat) (asg body : RCode) : Prop where
  ok : ∃ N ca cb, keyOf P key = some (N, ps.toArray, ca, cb) ∧ CodeOk P N ca asg ∧ CodeOk P N cb body ∧ ∀ p ∈ ps, p < N
structure TblOk (P : Program) (B : Nat) (T : Tbl) : Prop where
  fn : ∀ f rf, T.fn f = some rf → FuncOk P f rf
  loop : ∀ key ps asg body, T.loop key = some (ps, asg, body) → LoopOk P key ps asg body
  ext : HS P B T.xt
/-- A block that no name has turns. -/
theorem Sim.putOther {β : Nat → Ent} {H : CH} {w : World} (h : Sim P B β H w) {D : Nat} {o o' : Obj} (hD : w.heap[D]? = some o) (hk : (∀ cs e f, o ≠ .cells cs e f) ∧ (∀ es c, o ≠ .map es c) ∧ ∀ r, o ≠ .loop r) : Sim P B β H (w.putObj D o') := by
  refine ⟨fun l => (h.ent l).mono (EntExt.refl β) fun b hb => World.putObj_heap_other ?_, h.nx, h.inj, by simpa using h.base⟩
  rintro rfl
  rcases hb with ⟨sz, n, kd, hb⟩ | hb | hb
  · obtain ⟨cs, e, _, cs', e', frz, p1, _⟩ := h.live hb
    rw [hD] at p1; cases p1; exact hk.1 _ _ _ rfl
  · have := h.ent l
    rw [hb] at this
    cases ho : H.ob l with
    | map es c => rw [ho] at this; obtain ⟨_, es', p1, _⟩ := this; rw [hD] at p1; cases p1; exact hk.2.1 _ _ rfl
    | _ => rw [ho] at this; exact this.elim
  · obtain ⟨_, _, _, _, _, _, r, _, p1, _⟩ := h.loop hb
    rw [hD] at p1; cases p1; exact hk.2.2 _ rfl
/-- An activation's marks are taken. -/
theorem leaves_marks {fn : Func} {tmps : Array Value} {R : Ending → World → Prop} {B1 : Nat} {β0 β : Nat → Ent} {w0 : World} {H : CH} : ∀ (ms : List Nat) (w : World), Sim P B β H w → Evo β0 w0 β w → w0.heap.size ≤ B1 → ms.Nodup → (∀ D ∈ ms, B1 ≤ D ∧ w.heap[D]? = some (.deferred (some []))) →
    (∀ w', Sim P B β H w' → Evo β0 w0 β w' → ∃ v, (results fn tmps).run P w' = .ok v w' ∧ R (.returned v) w') → LeavesInM Fence.wide 0 P fn tmps R (ms.map mkD) .returning w
  | [], w, hS, hE, hB, hn, hm, hK => hK w hS hE
  | D :: ms, w, hS, hE, hB, hn, hm, hK => by
    obtain ⟨h1, h2⟩ := hm D (List.mem_cons_self ..)
    have hlt := (Array.getElem?_eq_some_iff.1 h2).1
    refine ⟨by simp, .inl ⟨D, w.putObj D (.deferred none), rfl, run_takeDeferred h2, ?_⟩⟩
    refine leaves_marks ms _ (hS.putOther (o' := .deferred none) h2 ⟨fun _ _ _ => by simp, fun _ _ => by simp, fun _ => by simp⟩) ?_ hB (List.nodup_cons.1 hn).2 (fun D' hD' => ?_) hK
    · exact ⟨hE.os, hE.tape, hE.output, by simpa using hE.size, fun b hb ho => by
        obtain ⟨k1, k2⟩ := hE.keep b hb ho
        exact ⟨(World.putObj_heap_other (by omega)).trans k1, k2⟩, hE.ext⟩
    · obtain ⟨g1, g2⟩ := hm D' (List.mem_cons_of_mem _ hD')
      refine ⟨g1, (World.putObj_heap_other ?_).trans g2⟩
      rintro rfl
      exact (List.nodup_cons.1 hn).1 hD'
theorem putPs_rel {β : Nat → Ent} {N : Nat} : ∀ {ps : List Nat} {args args' : List Value} {fr : Fr} {tmps : Array Value}, (∀ p ∈ ps, p < N) → VRs β args args' → FR β N fr { tmps := tmps, defers := [] } → FR β N (putPs fr ps args) { tmps := (ps.zip args').foldl (fun t p => t.setIfInBounds p.1 p.2) tmps, defers := [] }
  | [], args, args', fr, tmps, hp, ha, hf => by simpa [putPs] using hf
  | p :: ps, [], args', fr, tmps, hp, ha, hf => by
    have : args' = [] := List.length_eq_zero_iff.1 (by simpa using ha.1.symm)
    subst this
    simpa [putPs] using hf
  | p :: ps, v :: args, [], fr, tmps, hp, ha, hf => absurd ha.1 (by simp)
  | p :: ps, v :: args, v' :: args', fr, tmps, hp, ha, hf => by
    have h0 : VR β v v' := by
      obtain ⟨u, h1, h2⟩ := ha.2 0 v rfl
      simp at h1; subst h1; exact h2
    have hs : VRs β args args' := ⟨by simpa using ha.1, fun i v hv => by simpa using ha.2 (i + 1) v (by simpa using hv)⟩
    have hf' := hf.put (d := some p) (fun x hx => by cases hx; exact hp p (List.mem_cons_self ..)) h0
    have := putPs_rel (ps := ps) (fun q hq => hp q (List.mem_cons_of_mem _ hq)) hs (fr := putF fr (some p) v) (tmps := tmps.setIfInBounds p v') (by simpa [Act.put] using hf')
    simpa [putPs] using this
theorem fn_sound {T : Tbl} (hT : TblOk P B T) : ∀ n, HS P B (evH T n)
  | 0 => ⟨fun f args H v H' h => by simp [evH] at h, fun l args H v H' h => by simp [evH] at h⟩
  | n + 1 => ⟨fun f args H v H' h => (by
    have ih := fn_sound hT n
    simp only [evH] at h
    split at h
    · exact hT.ext.1 f args H v H' h
    · split at h
      · rename_i rf hrf
        have hfo := hT.fn f rf hrf
        obtain ⟨fn, c, hfn, hbody, hnt, hcode, hres⟩ := hfo.ok
        refine ⟨hfo.call, fun β w args' hS hargs => ?_⟩
        refine callsIn_of_wp_marks hfn hbody trivial ?_ rfl
        have hf : FR β rf.ntmps (fun t => args.getD t undef) { tmps := args'.toArray ++ Array.replicate (fn.ntmps - args'.toArray.size) undef, defers := [] } := by
          refine ⟨by simp; omega, fun t => ?_⟩
          simp only [List.getD, Array.getD_eq_getD_getElem?]
          by_cases ht : t < args'.length
          · have hta : t < args.length := by have := hargs.1; omega
            obtain ⟨v', h1, h2⟩ := hargs.2 t args[t] (by simp [hta])
            rw [Array.getElem?_append_left (by simpa using ht)]
            simp only [List.getElem?_toArray, h1, Option.getD_some, List.getElem?_eq_getElem hta]
            exact h2
          · have hta : args.length ≤ t := by have := hargs.1; omega
            rw [List.getElem?_eq_none hta]
            exact .undef _
        have fin : ∀ (x : CExit) (fr' : Fr) (K : CH), (x = .normal ∨ x = .ret) → evR (evH T n) n rf.body (fun t => args.getD t undef) H = some (x, fr', K) → (resL fr' K rf.res).map (fun vs => (tupleV vs, K)) = some (v, H') →
            c.wpIn Fence.wide 0 P (bodyPostM Fence.wide 0 P fn fun e w' => ∃ v' β', e = .returned v' ∧ VR β' v v' ∧ Sim P B β' H' w' ∧ Evo β w β' w') { tmps := args'.toArray ++ Array.replicate (fn.ntmps - args'.toArray.size) undef, defers := [] } w := by
          intro x fr' K hx hrun hvs
          cases hvl : resL fr' K rf.res with
          | none => rw [hvl] at hvs; cases hvs
          | some vs =>
            rw [hvl] at hvs
            simp only [Option.map_some, Option.some.injEq, Prod.mk.injEq] at hvs
            obtain ⟨rfl, rfl⟩ := hvs
            refine code_sound (ro := none) (B1 := w.heap.size) ih hcode β _ fr' H K _ w x _ hS hf (fun b hb => by cases hb) (DM.none rfl) (Nat.le_refl _) hrun fun β' w' a' q1 q2 q3 q4 => ?_
            obtain ⟨ms, m1, m2, m3⟩ := q4
            have hlv : LeavesInM Fence.wide 0 P fn a'.tmps (fun e w' => ∃ v' β', e = .returned v' ∧ VR β' (tupleV vs) v' ∧ Sim P B β' K w' ∧ Evo β w β' w') a'.defers .returning w' := by
              rw [m1]
              refine leaves_marks ms w' q1 q2 (Nat.le_refl _) m2 (fun D hD => ⟨(m3 D hD).1, (m3 D hD).2.1⟩) fun w2 hS2 hE2 => ?_
              obtain ⟨v', r1, r2⟩ := results_sound hS2 q3 hres hvl
              exact ⟨v', r1, v', β', rfl, r2, hS2, hE2⟩
            rcases hx with rfl | rfl
            · exact hlv
            · exact hlv
        split at h
        · rename_i fr' K hrun
          exact fin .normal fr' K (.inl rfl) hrun h
        · rename_i fr' K hrun
          exact fin .ret fr' K (.inr rfl) hrun h
        · cases h
      · cases h), fun l args H v H' h β w b args' hS hl hargs => by
    have ih := fn_sound hT n
    obtain ⟨st, pend, fr, key, ho, _, r, N, r1, r2, r3, r4, r5, r6⟩ := hS.loop hl
    simp only [evH, ho] at h
    split at h
    · rename_i pend1 fr1 key1 hob1
      cases hob1
      split at h
      · rename_i ps asg body htl
        split at h
        · rename_i hlen
          obtain ⟨N', ca, cb, hk, hca, hcb, hps⟩ := (hT.loop _ _ _ _ htl).ok
          rw [r4] at hk
          simp only [Option.some.injEq, Prod.mk.injEq] at hk
          obtain ⟨hN, k1, k2, k3⟩ := hk
          subst hN
          have hsz : args'.toArray.size = r.params.size := by rw [k1]; simp; rw [← hlen, hargs.1]
          refine ⟨r.fn, _, r.assign, r.body, run_yield r1 hsz, roundIn_of_wpIn trivial ?_⟩
          have hfold : (r.params.zip args'.toArray).foldl (fun tmps (t, a) => tmps.setIfInBounds t a) r.tmps = (ps.zip args').foldl (fun t p => t.setIfInBounds p.1 p.2) r.tmps := by
            rw [k1, ← Array.foldl_toList]; simp
          rw [hfold]
          have hf := putPs_rel (ps := ps) hps hargs (fr := fr) (tmps := r.tmps) ⟨r5, r6⟩
          have hroOk : RoOk β (some b) := fun b' hb' => by cases hb'; exact ⟨l, hl⟩
          split at h
          · rename_i fr2 H2 hasg
            split at h
            · rename_i pend0 fr0 key0 ho2
              rw [k2]
              refine code_sound (ro := some b) (B1 := 0) ih hca β _ fr2 H H2 _ w .normal _ hS hf hroOk (DM.none rfl) (Nat.zero_le _) hasg fun β2 w2 a2 q1 q2 q3 q4 => ?_
              have hl2 : β2 l = .loop b := by
                rcases q2.ext l with q | q | ⟨_, _, _, _, q, _⟩
                · rw [q, hl]
                · rw [hl] at q; cases q
                · rw [hl] at q; cases q
              obtain ⟨_, _, _, _, ho2', _, s, M, s1, s2, s3, s4, s5, s6⟩ := q1.loop hl2
              rw [ho2] at ho2'
              cases ho2'
              obtain ⟨z1, z2⟩ := q1.setLoop hl2 (st := .busy) (pend := pend0) (fr := fr0) (key := key0) (r := { s with state := .busy }) (N := M) rfl s3 s4 s5 s6
              refine ⟨_, run_beginRound s1 s2, ?_⟩
              rw [k3]
              split at h
              · rename_i x fr4 H4 hbody
                refine code_sound (ro := some b) (B1 := 0) ih hcb β2 _ fr4 _ H4 _ _ x _ z1 (q3.mono z2.ext) (fun b' hb' => by cases hb'; exact ⟨l, hl2⟩) (q4.evo z2 rfl) (Nat.zero_le _) hbody fun β4 w4 a4 p1 p2 p3 p4 => ?_
                have hl4 : β4 l = .loop b := by
                  rcases p2.ext l with q | q | ⟨_, _, _, _, q, _⟩
                  · rw [q, hl2]
                  · rw [hl2] at q; cases q
                  · rw [hl2] at q; cases q
                split at h
                · rename_i st5 pend5 fr5 key5 ho4
                  cases h
                  obtain ⟨_, _, _, _, ho4', _, u, M', u1, u2, u3, u4, u5, u6⟩ := p1.loop hl4
                  rw [ho4] at ho4'
                  cases ho4'
                  have fin : ∀ jump : Option Code, (xPend x).map pendC = jump → ∃ v' w', (Instr.endRound b jump).run P w4 = .ok v' w' ∧ ∃ v'' β', Ending.returned v' = .returned v'' ∧ VR β' (.bool (xPend x).isNone) v'' ∧ Sim P B β' (H4.set l (.loop (if (xPend x).isNone then .ready else .done) (xPend x) fr5 key5)) w' ∧ Evo β w β' w' := by
                    intro jump hj
                    have hjn : jump.isNone = (xPend x).isNone := by rw [← hj]; cases xPend x <;> rfl
                    obtain ⟨y1, y2⟩ := p1.setLoop hl4 (st := if (xPend x).isNone then .ready else .done) (pend := xPend x) (fr := fr5) (key := key5) (r := { u with state := if jump.isNone then .ready else .done, pending := jump }) (N := M') (by rw [hjn]) hj.symm u4 u5 u6
                    exact ⟨_, _, run_endRound jump u1, _, β4, rfl, by rw [hjn]; exact .bool _, y1, q2.trans (z2.trans (p2.trans y2))⟩
                  cases x with
                  | normal => exact fin none rfl
                  | ret => exact fin (some .ret) rfl
                  | exit i => exact fin (some (.exit i)) rfl
                · cases h
              · cases h
            · cases h
          · cases h
        · cases h
      · cases h
    · cases h⟩
/-- What is found of a canonical run, the program does. -/
theorem calls_of_ev {T : Tbl} (hT : TblOk P B T) {n : Nat} {f : FuncId} {args : List Value} {H H' : CH} {v : Value} (h : evFn T n f args H = some (v, H')) {β : Nat → Ent} {w : World} {args' : List Value} (hS : Sim P B β H w) (ha : VRs β args args') :
    Calls P f args'.toArray w fun e w' => ∃ v' β', e = .returned v' ∧ VR β' v v' ∧ Sim P B β' H' w' ∧ Evo β w β' w' :=
  callsIn_wide.1 (((fn_sound hT n).1 f args H v H' h).2 β w args' hS ha)
end Can
end Go.Proofs.Ytmpojphjongdcaa
