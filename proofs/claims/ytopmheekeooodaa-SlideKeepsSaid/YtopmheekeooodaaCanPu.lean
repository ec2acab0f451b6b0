/- Canonical runs: calls that touch no memory of others (by evaluation, or by a run in an empty memory) as rules of a table. Over any program. -/
import Derived.Test.YtopmheekeooodaaCanRun
namespace Go.Proofs.Ytopmheekeooodaa
namespace Can
open Go Go.RowKit
set_option linter.unusedSimpArgs false
set_option linter.unusedVariables false
variable {P : Program} {B : Nat}
def eqA : Value → Value → Bool
  | .bool a, .bool b => a == b
  | .int k a, .int l b => decide (k = l) && decide (a = b)
  | .string a, .string b => decide (a.data.toList = b.data.toList)
  | .pointer a, .pointer b => decide (a = b)
  | .slice a n c, .slice b m d => decide (a = b) && (n == m && c == d)
  | .nilFunc, .nilFunc => true
  | .nilIface, .nilIface => true
  | _, _ => false
theorem eqA_ok {a b : Value} (h : eqA a b = true) : a = b := by
  unfold eqA at h
  split at h <;> simp_all
  rename_i x y
  obtain ⟨⟨l⟩⟩ := x; obtain ⟨⟨m⟩⟩ := y
  simpa using h
def eqL : List Value → List Value → Bool
  | [], [] => true
  | a :: xs, b :: ys => eqA a b && eqL xs ys
  | _, _ => false
theorem eqL_ok : ∀ {xs ys : List Value}, eqL xs ys = true → xs = ys
  | [], [], _ => rfl
  | a :: xs, b :: ys, h => by simp only [eqL, Bool.and_eq_true] at h; rw [eqA_ok h.1, eqL_ok h.2]
  | [], _ :: _, h => by cases h
  | _ :: _, [], h => by cases h
def eqV : Value → Value → Bool
  | .agg xs, .agg ys => eqL xs.toList ys.toList
  | .func (.func f) xs ys, .func (.func g) us vs => decide (f = g) && (eqL xs.toList us.toList && eqL ys.toList vs.toList)
  | a, b => eqA a b
theorem eqV_ok {a b : Value} (h : eqV a b = true) : a = b := by
  unfold eqV at h
  split at h
  · have := eqL_ok h; congr 1; exact Array.ext' this
  · simp only [Bool.and_eq_true, decide_eq_true_eq] at h
    obtain ⟨rfl, h1, h2⟩ := h
    rw [Array.ext' (eqL_ok h1), Array.ext' (eqL_ok h2)]
  · exact eqA_ok h
def agB (fr : Fr) (G : CH) (it : Item) : Bool :=
  match wantedF fr it.guard with
  | some false => true
  | _ => match it.op, it.dst with
    | .l x, some d => match lop G (evF fr) x with
      | some v => eqV v (fr d)
      | none => false
    | _, _ => false
theorem agB_ok {fr : Fr} {G : CH} {it : Item} (h : agB fr G it = true) : Again fr G it := by
  unfold agB at h
  split at h
  · rename_i h0; exact .inl h0
  · split at h
    · rename_i x d h1 h2
      split at h
      · rename_i v h3; exact .inr ⟨x, d, h1, h2, by rw [h3, eqV_ok h]⟩
      · cases h
    · cases h
def chkB (fr : Fr) (l : List CH) : List (Item × Nat) → Bool
  | [] => true
  | p :: r => (match l[p.2]? with | some G => agB fr G p.1 | none => false) && chkB fr l r
theorem chkB_ok {fr : Fr} {l : List CH} : ∀ {c : List (Item × Nat)}, chkB fr l c = true → ∀ p ∈ c, ∃ G, l[p.2]? = some G ∧ Again fr G p.1
  | [], _, p, hp => by cases hp
  | q :: r, h, p, hp => by
    simp only [chkB, Bool.and_eq_true] at h
    rcases List.mem_cons.1 hp with rfl | hp
    · have h1 := h.1
      split at h1
      · rename_i G hG; exact ⟨G, hG, agB_ok h1⟩
      · cases h1
    · exact chkB_ok h.2 p hp
def evDc (h : Hd) (d : DReg) (fr : Fr) (H : CH) : Option (Fr × CH) :=
  match runD h d.its fr H with
  | some (fr', H', l) => if chkB fr' (H :: l) d.chk then some (fr', H') else none
  | none => none
theorem evDc_ok {h h' : Hd} (hle : HLe h h') {d : DReg} {fr : Fr} {H : CH} {r : Fr × CH} (hr : evDc h d fr H = some r) : evD h' d fr H = some r := by
  unfold evDc at hr
  split at hr
  · rename_i fr' H' l hd
    split at hr
    · rename_i hc
      cases hr
      unfold evD
      rw [runD_mono hle hd]
      simp only
      rw [if_pos (chkB_ok hc)]
    · cases hr
  · cases hr
def evRc (h : Hd) (n : Nat) : RCode → Fr → CH → Res
  | .skip, fr, H => some (.normal, fr, H)
  | .reg its, fr, H => (runI h its fr H).map fun (f, K) => (.normal, f, K)
  | .drw d, fr, H => (evDc h d fr H).map fun (f, K) => (.normal, f, K)
  | .seq a b, fr, H => match evRc h n a fr H with
    | some (.normal, fr', H') => evRc h n b fr' H'
    | r => r
  | .cond c a b, fr, H => match evF fr c with
    | .bool true => evRc h n a fr H
    | .bool false => evRc h n b fr H
    | _ => none
  | .block id c, fr, H => match evRc h n c fr H with
    | some (.exit i, fr', H') => if i = id then some (.normal, fr', H') else some (.exit i, fr', H')
    | r => r
  | .loop c, fr, H => loopN n (evRc h n c) fr H
  | .exit id, fr, H => some (.exit id, fr, H)
  | .ret, fr, H => some (.ret, fr, H)
  | .bad, _, _ => none
  | .rangeF g key, fr, H => match evF fr g with
    | .func (.func f) _ caps => match h.call f (.func (.yield H.nx) #[] #[] :: caps.toList) (H.new (.loop .ready none fr key)) with
      | some (_, H2) => match H2.ob H.nx with
        | .loop st pend fr' key' => if st = .busy then none else some (jumpX pend, fr, H2.set H.nx (.loop .exhausted pend fr' key'))
        | _ => none
      | none => none
    | _ => none
theorem evRc_ok {h h' : Hd} (hle : HLe h h') {n : Nat} : ∀ {c : RCode} {fr : Fr} {H : CH} {r : CExit × Fr × CH}, evRc h n c fr H = some r → evR h' n c fr H = some r := by
  intro c
  induction c with
  | bad => intro fr H r hr; simp [evRc] at hr
  | skip => intro fr H r hr; exact hr
  | reg its =>
    intro fr H r hr
    simp only [evRc, evR] at hr ⊢
    cases hi : runI h its fr H with
    | none => rw [hi] at hr; cases hr
    | some q => rw [hi] at hr; rw [runI_mono hle hi]; exact hr
  | drw d =>
    intro fr H r hr
    simp only [evRc, evR] at hr ⊢
    cases hi : evDc h d fr H with
    | none => rw [hi] at hr; cases hr
    | some q => rw [hi] at hr; rw [evDc_ok hle hi]; exact hr
  | seq a b iha ihb =>
    intro fr H r hr
    simp only [evRc, evR] at hr ⊢
    cases ha : evRc h n a fr H with
    | none => rw [ha] at hr; cases hr
    | some q =>
      obtain ⟨x, fr1, H1⟩ := q
      rw [ha] at hr
      rw [iha ha]
      cases x with
      | normal => exact ihb hr
      | exit i => exact hr
      | ret => exact hr
  | cond c a b iha ihb =>
    intro fr H r hr
    simp only [evRc, evR] at hr ⊢
    split at hr
    · rename_i e; rw [e]; exact iha hr
    · rename_i e; rw [e]; exact ihb hr
    · cases hr
  | block id c ih =>
    intro fr H r hr
    simp only [evRc, evR] at hr ⊢
    cases ha : evRc h n c fr H with
    | none => rw [ha] at hr; cases hr
    | some q => rw [ha] at hr; rw [ih ha]; exact hr
  | loop c ih =>
    intro fr H r hr
    simp only [evRc, evR] at hr ⊢
    exact loopN_mono (Nat.le_refl n) (fun _ _ _ hq => ih hq) hr
  | exit id => intro fr H r hr; exact hr
  | ret => intro fr H r hr; exact hr
  | rangeF g key =>
    intro fr H r hr
    simp only [evRc, evR] at hr ⊢
    split at hr
    · rename_i f fst caps hg
      cases hc : h.call f (Value.func (.yield H.nx) #[] #[] :: caps.toList) (H.new (.loop .ready none fr key)) with
      | none => rw [hc] at hr; cases hr
      | some q => rw [hc] at hr; rw [hg]; simp only; rw [hle.call _ _ _ _ hc]; exact hr
    · cases hr
/-- The evaluator that can be run: over tables of functions and loops. -/
def evHc (L : List FuncId) (xt : FuncId → List Value → Option Value) (fn : FuncId → Option RFunc) (lp : Nat × Nat → Option (List Nat × RCode × RCode)) : Nat → Hd
  | 0 => ⟨fun _ _ _ => none, fun _ _ _ => none⟩
  | n + 1 => ⟨fun f args H => if L.elem f then (xt f args).map fun v => (v, H) else match fn f with
    | some rf => match evRc (evHc L xt fn lp n) n rf.body (fun t => args.getD t undef) H with
      | some (.normal, fr', H') => (resL fr' H' rf.res).map fun vs => (tupleV vs, H')
      | some (.ret, fr', H') => (resL fr' H' rf.res).map fun vs => (tupleV vs, H')
      | _ => none
    | none => none, fun l args H => match H.ob l with
    | .loop .ready _ fr key => match lp key with
      | some (ps, asg, body) => if args.length = ps.length then match evRc (evHc L xt fn lp n) n asg (putPs fr ps args) H with
        | some (.normal, fr2, H2) => match H2.ob l with
          | .loop .ready pend fr0 key0 => match evRc (evHc L xt fn lp n) n body fr2 (H2.set l (.loop .busy pend fr0 key0)) with
            | some (x, _, H4) => match H4.ob l with
              | .loop _ _ fr5 key5 => some (.bool (xPend x).isNone, H4.set l (.loop (if (xPend x).isNone then .ready else .done) (xPend x) fr5 key5))
              | _ => none
            | none => none
          | _ => none
        | _ => none
        else none
      | none => none
    | _ => none⟩
theorem evHc_ok {T : Tbl} {L : List FuncId} {xt : FuncId → List Value → Option Value} (he : ∀ f, T.ext f = L.elem f) (hx : ∀ f args H, T.xt.call f args H = (xt f args).map fun v => (v, H)) : ∀ n, HLe (evHc L xt T.fn T.loop n) (evH T n)
  | 0 => ⟨fun f a H r hr => by simp [evHc] at hr, fun f a H r hr => by simp [evHc] at hr⟩
  | n + 1 => by
    have ih := evHc_ok he hx n
    refine ⟨fun f a H r hr => ?_, fun l a H r hr => ?_⟩
    · simp only [evHc] at hr
      simp only [evH, he]
      split at hr
      · rename_i hl
        rw [if_pos hl, hx]
        exact hr
      rename_i hl
      rw [if_neg hl]
      split at hr
      · rename_i rf hrf
        cases hb : evRc (evHc L xt T.fn T.loop n) n rf.body (fun t => a.getD t undef) H with
        | none => rw [hb] at hr; cases hr
        | some q => rw [hb] at hr; simp only [hrf]; rw [evRc_ok ih hb]; exact hr
      · cases hr
    · simp only [evHc] at hr
      simp only [evH]
      split at hr
      · rename_i pend fr key ho
        simp only [ho]
        split at hr
        · rename_i ps asg body hl
          split at hr
          · rename_i hlen
            simp only [hl, if_pos hlen]
            cases hb : evRc (evHc L xt T.fn T.loop n) n asg (putPs fr ps a) H with
            | none => rw [hb] at hr; cases hr
            | some q =>
              obtain ⟨x, fr2, H2⟩ := q
              rw [hb] at hr
              rw [evRc_ok ih hb]
              cases x with
              | normal =>
                simp only at hr ⊢
                split at hr
                · rename_i pend0 fr0 key0 ho2
                  cases hb2 : evRc (evHc L xt T.fn T.loop n) n body fr2 (H2.set l (.loop .busy pend0 fr0 key0)) with
                  | none => rw [hb2] at hr; cases hr
                  | some q2 => rw [hb2] at hr; rw [ho2]; simp only; rw [evRc_ok ih hb2]; exact hr
                · cases hr
              | ret => cases hr
              | exit i => cases hr
          · cases hr
        · cases hr
      · cases hr

/-! An empty memory stands for any world. -/
def noH : CH := ⟨0, fun _ => .unborn⟩
theorem sim_no (w : World) : Sim P w.heap.size (fun _ => .unborn) noH w :=
  ⟨fun _ => trivial, fun _ _ => rfl, fun _ _ _ h => h.elim, Nat.le_refl _⟩
/-- The call, on these closed values, answers v (closed) and touches nothing that was there. -/
def PureOk (P : Program) (f : FuncId) (args : List Value) (v : Value) : Prop :=
  (callable P f = true ∧ closedA args = true ∧ closedW v = true ∧ ∀ w, CallsIn Fence.wide 0 P f args.toArray w fun e w' => e = .returned v ∧ w'.os = w.os ∧ w'.tape = w.tape ∧ w'.output = w.output ∧ w.heap.size ≤ w'.heap.size ∧ ∀ b, b < w.heap.size → w'.heap[b]? = w.heap[b]?) ∨ ExtOk P f args v
theorem pure_of {T : Tbl} (hT : ∀ B, TblOk P B T) {f : FuncId} {args : List Value} {v : Value} (hc : callable P f = true) (ha : closedA args = true) (hv : closedW v = true) (h : WpF T f args noH fun u _ => u = v) : PureOk P f args v := by
  refine .inl ⟨hc, ha, hv, fun w => ?_⟩
  obtain ⟨n, u, H', h1, rfl⟩ := h
  refine callsIn_wide.2 ((calls_of_ev (hT w.heap.size) h1 (sim_no w) (closedA_rel ha _) hc).mono fun e w' ⟨v', β', he, hr, hs, hevo⟩ => ?_)
  rw [closedW_eq hv hr] at he
  exact ⟨he, hevo.os, hevo.tape, hevo.output, hevo.size, fun b hb => (hevo.keep b hb (fun _ h => h)).1⟩
/-- A table with such calls as they answer. -/
noncomputable def tblG (P : Program) (L : List FuncId) (G : FuncId → List Value → Option Value) : Tbl :=
  ⟨resFunc P (fun N ops => resD P N ops), resLoop P (fun N ops => resD P N ops), fun f => L.elem f, ⟨fun f args H => (G f args).map fun v => (v, H), fun _ _ _ => none⟩⟩
theorem tblG_ok {L : List FuncId} {G : FuncId → List Value → Option Value} (hG : ∀ f args v, G f args = some v → PureOk P f args v) : TblOk P B (tblG P L G) := by
  refine ⟨fun f rf h => resFunc_ok (fun N ops d h => resD_ok h) h, fun key ps asg body h => resLoop_ok (fun N ops d h => resD_ok h) h, ⟨fun f args H v H' h => ?_, fun l args H v H' h => (by cases h)⟩⟩
  have h' : (G f args).map (fun v => (v, H)) = some (v, H') := h
  rw [Option.map_eq_some_iff] at h'
  obtain ⟨u, hu, he⟩ := h'
  cases he
  rcases hG _ _ _ hu with ⟨hc, ha, hv, hw⟩ | hx
  case inr => exact .inr ⟨hx, rfl⟩
  refine .inl ⟨hc, fun β w args' hS hr => ?_⟩
  rw [closedA_eq ha hr]
  refine (hw w).mono fun e w' ⟨he, h1, h2, h3, h4, h5⟩ => ⟨v, β, he, closedW_rel hv β, ?_, ?_⟩
  · exact ⟨fun l => (hS.ent l).mono (EntExt.refl β) fun b hb => h5 b (at_lt hS hb), hS.nx, hS.inj, Nat.le_trans hS.base h4⟩
  · exact ⟨h1, h2, h3, h4, fun b hb ho => ⟨h5 b hb, ho⟩, EntExt.refl β⟩
/-- The rule of such a call. -/
theorem wpF_G {L : List FuncId} {G : FuncId → List Value → Option Value} {f : FuncId} {args : List Value} {v : Value} (hf : L.elem f = true) (hv : G f args = some v) {H : CH} {Q : Value → CH → Prop} : WpF (tblG P L G) f args H Q ↔ Q v H := by
  have hev : ∀ n, evFn (tblG P L G) (n + 1) f args H = some (v, H) := fun n => by
    simp only [evFn, evH]
    have : (tblG P L G).ext f = true := hf
    rw [if_pos this]
    show (G f args).map (fun v => (v, H)) = some (v, H)
    rw [hv]; rfl
  constructor
  · rintro ⟨n, u, H', h1, h2⟩
    cases n with
    | zero => simp [evFn, evH] at h1
    | succ n => rw [hev n] at h1; cases h1; exact h2
  · exact fun h => ⟨1, v, H, hev 0, h⟩
theorem wpF_rG {L : List FuncId} {G : FuncId → List Value → Option Value} {f : Nat} (he : L.elem f = false) (h : (resFunc P (fun N ops => resD P N ops) f).isSome = true) {args : List Value} {H : CH} {Q : Value → CH → Prop} (k : WpR (tblG P L G) (rF P f).body (fun t => args.getD t undef) H (FunK (rF P f).res Q)) : WpF (tblG P L G) f args H Q := by
  refine wpF_in he ?_ k
  unfold rF
  show resFunc P (fun N ops => resD P N ops) f = some ((resFunc P (fun N ops => resD P N ops) f).getD ⟨0, [], .skip⟩)
  cases hr : resFunc P (fun N ops => resD P N ops) f with
  | none => rw [hr] at h; cases h
  | some r => rfl
theorem wpY_rG {L : List FuncId} {G : FuncId → List Value → Option Value} {key : Nat × Nat} (h : (resLoop P (fun N ops => resD P N ops) key).isSome = true) {l : Nat} {args : List Value} {H : CH} {Q : Value → CH → Prop} {pend : Option (Option Nat)} {fr : Fr} (ho : H.ob l = .loop .ready pend fr key) (hl : args.length = (rL P key).1.length)
    (k : WpR (tblG P L G) (rL P key).2.1 (putPs fr (rL P key).1 args) H (RoundK (tblG P L G) l (rL P key).2.2 Q)) : WpY (tblG P L G) l args H Q := by
  refine wpY_in (ps := (rL P key).1) (asg := (rL P key).2.1) (body := (rL P key).2.2) ho ?_ hl k
  unfold rL
  show resLoop P (fun N ops => resD P N ops) key = some ((resLoop P (fun N ops => resD P N ops) key).getD ⟨[], .skip, .skip⟩)
  cases hr : resLoop P (fun N ops => resD P N ops) key with
  | none => rw [hr] at h; cases h
  | some r => rfl
/-- By evaluation. -/
def runC (P : Program) (n : Nat) (f : FuncId) (args : List Value) : Option Value :=
  ((evHc [] (fun _ _ => none) (resFunc P (fun N ops => resD P N ops)) (resLoop P (fun N ops => resD P N ops)) n).call f args noH).map (·.1)
theorem wpF_runC {n : Nat} {f : FuncId} {args : List Value} {v : Value} (h : runC P n f args = some v) : WpF (tbl P) f args noH fun u _ => u = v := by
  unfold runC at h
  rw [Option.map_eq_some_iff] at h
  obtain ⟨q, h1, rfl⟩ := h
  exact ⟨n, q.1, q.2, (evHc_ok (T := tbl P) (fun _ => rfl) (fun _ _ _ => rfl) n).call _ _ _ _ h1, rfl⟩
/-- By evaluation, over a table with calls that are answered at once. -/
noncomputable def runG (P : Program) (L : List FuncId) (G : FuncId → List Value → Option Value) (n : Nat) (f : FuncId) (args : List Value) : Option Value :=
  ((evHc L G (resFunc P (fun N ops => resD P N ops)) (resLoop P (fun N ops => resD P N ops)) n).call f args noH).map (·.1)
theorem wpF_runG {L : List FuncId} {G : FuncId → List Value → Option Value} {n : Nat} {f : FuncId} {args : List Value} {v : Value} (h : runG P L G n f args = some v) : WpF (tblG P L G) f args noH fun u _ => u = v := by
  unfold runG at h
  rw [Option.map_eq_some_iff] at h
  obtain ⟨q, h1, rfl⟩ := h
  exact ⟨n, q.1, q.2, (evHc_ok (T := tblG P L G) (fun _ => rfl) (fun _ _ _ => rfl) n).call _ _ _ _ h1, rfl⟩
end Can
end Go.Proofs.Ytopmheekeooodaa
