/- Canonical runs: the rules in the form in which a run is worked out. -/
import Derived.Test.YtmpojphjongdcaaCanM
namespace Go.Proofs.Ytmpojphjongdcaa
namespace Can
open Go Go.RowKit
set_option linter.unusedSimpArgs false
set_option linter.unusedVariables false
variable {T : Tbl}

/-- What follows, kept closed until its turn comes. -/
def SeqK (T : Tbl) (b : RCode) (Q : CExit → Fr → CH → Prop) : CExit → Fr → CH → Prop := fun x fr H => match x with
  | .normal => WpR T b fr H Q
  | x => Q x fr H
def BlockK (id : Nat) (Q : CExit → Fr → CH → Prop) : CExit → Fr → CH → Prop := fun x fr H => match x with
  | .exit i => if i = id then Q .normal fr H else Q (.exit i) fr H
  | x => Q x fr H
def LoopK (T : Tbl) (c : RCode) (Q : CExit → Fr → CH → Prop) : CExit → Fr → CH → Prop := fun x fr H => match x with
  | .normal => WpR T (.loop c) fr H Q
  | x => Q x fr H
def ItemK (T : Tbl) (r : List Item) (fr : Fr) (d : Option Nat) (K : Fr → CH → Prop) : Value → CH → Prop := fun v H => WpI T r (putF fr d v) H K
def DItemK (T : Tbl) (r : List Item) (fr : Fr) (d : Option Nat) (w : Bool) (K : Fr → CH → List CH → Prop) : Value → CH → Prop := fun v H => WpD T r (putF fr d v) H fun f L l => K f L (if w then H :: l else l)
def optK {α : Type} (o : Option α) (K : α → Prop) : Prop := match o with
  | some v => K v
  | none => False
def optV (o : Option Value) (K : Value → CH → Prop) (H : CH) : Prop := match o with
  | some v => K v H
  | none => False
def optW (o : Option (Value × CH)) (K : Value → CH → Prop) : Prop := match o with
  | some q => K q.1 q.2
  | none => False
def optA (o : Option (List Value × TypeId × Kd × AK)) (K : Value → CH → Prop) (H : CH) : Prop := match o with
  | some q => K (akV q.2.2.2 H.nx) (H.new (.cells q.1 q.2.1 q.2.2.1))
  | none => False
def finK (o : Option (List Value)) (Q : Value → CH → Prop) (H : CH) : Prop := match o with
  | some vs => Q (tupleV vs) H
  | none => False
theorem optV_some {v : Value} {K : Value → CH → Prop} {H : CH} : optV (some v) K H ↔ K v H := Iff.rfl
theorem optW_some {v : Value} {K : Value → CH → Prop} {H : CH} : optW (some (v, H)) K ↔ K v H := Iff.rfl
theorem optA_some {cs : List Value} {e : TypeId} {k : Kd} {mk : AK} {K : Value → CH → Prop} {H : CH} : optA (some (cs, e, k, mk)) K H ↔ K (akV mk H.nx) (H.new (.cells cs e k)) := Iff.rfl
theorem finK_some {vs : List Value} {Q : Value → CH → Prop} {H : CH} : finK (some vs) Q H ↔ Q (tupleV vs) H := Iff.rfl
def FunK (res : List RRes) (Q : Value → CH → Prop) : CExit → Fr → CH → Prop := fun x fr H => match x with
  | .exit _ => False
  | _ => finK (resL fr H res) Q H
theorem optK_some {α : Type} {v : α} {K : α → Prop} : optK (some v) K ↔ K v := Iff.rfl
theorem r_seq {a b : RCode} {fr : Fr} {H : CH} {Q : CExit → Fr → CH → Prop} : WpR T (.seq a b) fr H Q ↔ WpR T a fr H (SeqK T b Q) := wpR_seq
theorem r_block {id : Nat} {c : RCode} {fr : Fr} {H : CH} {Q : CExit → Fr → CH → Prop} : WpR T (.block id c) fr H Q ↔ WpR T c fr H (BlockK id Q) := wpR_block
theorem r_loop {c : RCode} {fr : Fr} {H : CH} {Q : CExit → Fr → CH → Prop} : WpR T (.loop c) fr H Q ↔ WpR T c fr H (LoopK T c Q) := wpR_loop
theorem seqK_n {b : RCode} {Q : CExit → Fr → CH → Prop} {fr : Fr} {H : CH} : SeqK T b Q .normal fr H ↔ WpR T b fr H Q := Iff.rfl
theorem seqK_r {b : RCode} {Q : CExit → Fr → CH → Prop} {fr : Fr} {H : CH} : SeqK T b Q .ret fr H ↔ Q .ret fr H := Iff.rfl
theorem seqK_e {b : RCode} {Q : CExit → Fr → CH → Prop} {i : Nat} {fr : Fr} {H : CH} : SeqK T b Q (.exit i) fr H ↔ Q (.exit i) fr H := Iff.rfl
theorem blockK_n {id : Nat} {Q : CExit → Fr → CH → Prop} {fr : Fr} {H : CH} : BlockK id Q .normal fr H ↔ Q .normal fr H := Iff.rfl
theorem blockK_r {id : Nat} {Q : CExit → Fr → CH → Prop} {fr : Fr} {H : CH} : BlockK id Q .ret fr H ↔ Q .ret fr H := Iff.rfl
theorem blockK_e {id i : Nat} {Q : CExit → Fr → CH → Prop} {fr : Fr} {H : CH} : BlockK id Q (.exit i) fr H ↔ if i = id then Q .normal fr H else Q (.exit i) fr H := Iff.rfl
theorem loopK_n {b : RCode} {Q : CExit → Fr → CH → Prop} {fr : Fr} {H : CH} : LoopK T b Q .normal fr H ↔ WpR T (.loop b) fr H Q := Iff.rfl
theorem loopK_r {b : RCode} {Q : CExit → Fr → CH → Prop} {fr : Fr} {H : CH} : LoopK T b Q .ret fr H ↔ Q .ret fr H := Iff.rfl
theorem loopK_e {b : RCode} {Q : CExit → Fr → CH → Prop} {i : Nat} {fr : Fr} {H : CH} : LoopK T b Q (.exit i) fr H ↔ Q (.exit i) fr H := Iff.rfl
theorem funK_n {res : List RRes} {Q : Value → CH → Prop} {fr : Fr} {H : CH} : FunK res Q .normal fr H ↔ finK (resL fr H res) Q H := Iff.rfl
theorem funK_r {res : List RRes} {Q : Value → CH → Prop} {fr : Fr} {H : CH} : FunK res Q .ret fr H ↔ finK (resL fr H res) Q H := Iff.rfl
theorem r_reg {its : List Item} {fr : Fr} {H : CH} {Q : CExit → Fr → CH → Prop} : WpR T (.reg its) fr H Q ↔ WpI T its fr H (Q .normal) := wpR_reg
theorem r_drw {its : List Item} {fr : Fr} {H : CH} {Q : CExit → Fr → CH → Prop} : WpR T (.drw ⟨its, []⟩) fr H Q ↔ WpI T its fr H (Q .normal) := by
  rw [wpR_drw]
  constructor
  · rintro ⟨n, fr', H', l, h1, h2, h3⟩
    refine ⟨n, fr', H', ?_, h3⟩
    clear h2 h3
    induction its generalizing fr H l with
    | nil => simp only [runD, Option.some.injEq, Prod.mk.injEq] at h1; obtain ⟨rfl, rfl, rfl⟩ := h1; rfl
    | cons it its ih =>
      simp only [runD, runI] at h1 ⊢
      cases hs : stepI (evH T n) it fr H with
      | none => rw [hs] at h1; cases h1
      | some q =>
        rw [hs] at h1
        simp only at h1 ⊢
        cases hd : runD (evH T n) its q.1 q.2 with
        | none => rw [hd] at h1; cases h1
        | some z => obtain ⟨a, b, c⟩ := z; rw [hd] at h1; simp only [Option.map_some, Option.some.injEq, Prod.mk.injEq] at h1; obtain ⟨rfl, rfl, _⟩ := h1; exact ih _ hd
  · rintro ⟨n, fr', H', h1, h3⟩
    have : ∃ l, runD (evH T n) its fr H = some (fr', H', l) := by
      clear h3
      induction its generalizing fr H with
      | nil => simp only [runI, Option.some.injEq, Prod.mk.injEq] at h1; obtain ⟨rfl, rfl⟩ := h1; exact ⟨[], rfl⟩
      | cons it its ih =>
        simp only [runD, runI] at h1 ⊢
        cases hs : stepI (evH T n) it fr H with
        | none => rw [hs] at h1; cases h1
        | some q =>
          rw [hs] at h1
          obtain ⟨l, hl⟩ := ih h1
          simp only [hl]
          exact ⟨_, rfl⟩
    obtain ⟨l, hl⟩ := this
    exact ⟨n, fr', H', l, hl, fun p hp => by simp at hp, h3⟩
/-- The two ways of a test, kept closed until it is decided. -/
def CondK (T : Tbl) (v : Value) (a b : RCode) (fr : Fr) (H : CH) (Q : CExit → Fr → CH → Prop) : Prop := match v with
  | .bool t => if t = true then WpR T a fr H Q else WpR T b fr H Q
  | _ => False
theorem r_cond {c : Operand} {a b : RCode} {fr : Fr} {H : CH} {Q : CExit → Fr → CH → Prop} : WpR T (.cond c a b) fr H Q ↔ CondK T (evF fr c) a b fr H Q := wpR_cond
theorem condK_t {a b : RCode} {fr : Fr} {H : CH} {Q : CExit → Fr → CH → Prop} : CondK T (.bool true) a b fr H Q ↔ WpR T a fr H Q := by simp [CondK]
theorem condK_f {a b : RCode} {fr : Fr} {H : CH} {Q : CExit → Fr → CH → Prop} : CondK T (.bool false) a b fr H Q ↔ WpR T b fr H Q := by simp [CondK]
theorem condK_split {t : Bool} {a b : RCode} {fr : Fr} {H : CH} {Q : CExit → Fr → CH → Prop} (h1 : t = true → WpR T a fr H Q) (h2 : t = false → WpR T b fr H Q) : CondK T (.bool t) a b fr H Q := by
  cases t
  · exact condK_f.2 (h2 rfl)
  · exact condK_t.2 (h1 rfl)
/-- A guarded operation, kept closed until its guard is decided. -/
def GrdK (T : Tbl) (v : Value) (b : Bool) (d : Option Nat) (op : ROp) (r : List Item) (fr : Fr) (H : CH) (K : Fr → CH → Prop) : Prop := match v with
  | .bool c => if c = b then WpO T fr H op (ItemK T r fr d K) else WpI T r (putF fr d skipV) H K
  | .chan none => WpI T r (putF fr d skipV) H K
  | _ => False
theorem i_grd {d : Option Nat} {op : ROp} {s : Nat} {b : Bool} {r : List Item} {fr : Fr} {H : CH} {K : Fr → CH → Prop} : WpI T (⟨d, op, some (s, b)⟩ :: r) fr H K ↔ GrdK T (fr s) b d op r fr H K := by
  rw [wpI_cons]
  simp only [wantedF]
  generalize fr s = v
  unfold GrdK
  cases v with
  | bool c =>
    simp only
    by_cases e : c = b
    · subst e; simp only [beq_self_eq_true, if_true]; exact Iff.rfl
    · have : (c == b) = false := by simpa using e
      simp only [this, if_neg e]
  | chan r => cases r <;> exact Iff.rfl
  | _ => exact Iff.rfl
variable {d : Option Nat} {op : ROp} {r : List Item} {fr : Fr} {H : CH} {K : Fr → CH → Prop}
theorem grd_tt : GrdK T (.bool true) true d op r fr H K ↔ WpO T fr H op (ItemK T r fr d K) := by simp [GrdK]
theorem grd_ff : GrdK T (.bool false) false d op r fr H K ↔ WpO T fr H op (ItemK T r fr d K) := by simp [GrdK]
theorem grd_tf : GrdK T (.bool true) false d op r fr H K ↔ WpI T r (putF fr d skipV) H K := by simp [GrdK]
theorem grd_ft : GrdK T (.bool false) true d op r fr H K ↔ WpI T r (putF fr d skipV) H K := by simp [GrdK]
theorem grd_s {b : Bool} : GrdK T skipV b d op r fr H K ↔ WpI T r (putF fr d skipV) H K := by simp [GrdK, skipV]
theorem grd_split {t b : Bool} (h1 : t = true → GrdK T (.bool true) b d op r fr H K) (h2 : t = false → GrdK T (.bool false) b d op r fr H K) : GrdK T (.bool t) b d op r fr H K := by
  cases t
  · exact h2 rfl
  · exact h1 rfl
theorem i_cons {d : Option Nat} {op : ROp} {r : List Item} {fr : Fr} {H : CH} {K : Fr → CH → Prop} : WpI T (⟨d, op, none⟩ :: r) fr H K ↔ WpO T fr H op (ItemK T r fr d K) := wpI_cons
theorem itemK {r : List Item} {fr : Fr} {d : Option Nat} {K : Fr → CH → Prop} {v : Value} {H : CH} : ItemK T r fr d K v H ↔ WpI T r (putF fr d v) H K := Iff.rfl
theorem o_p {fr : Fr} {H : CH} {x : POp} {K : Value → CH → Prop} : WpO T fr H (.p x) K ↔ optV (pop (evF fr) x) K H := by
  rw [wpO_p]; cases pop (evF fr) x <;> simp [optV]
theorem o_l {fr : Fr} {H : CH} {x : LOp} {K : Value → CH → Prop} : WpO T fr H (.l x) K ↔ optV (lop H (evF fr) x) K H := by
  rw [wpO_l]; cases lop H (evF fr) x <;> simp [optV]
theorem o_a {fr : Fr} {H : CH} {x : AOp} {K : Value → CH → Prop} : WpO T fr H (.a x) K ↔ optA (aop (evF fr) x) K H := by
  rw [wpO_a]
  cases aop (evF fr) x with
  | none => simp [optA]
  | some q =>
    obtain ⟨cs, e, k, mk⟩ := q
    constructor
    · rintro ⟨cs', e', k', mk', h, hk⟩; cases h; exact hk
    · intro h; exact ⟨cs, e, k, mk, rfl, h⟩
theorem o_w {fr : Fr} {H : CH} {x : WOp} {K : Value → CH → Prop} : WpO T fr H (.w x) K ↔ optW (wop H (evF fr) x) K := by
  rw [wpO_w]
  cases wop H (evF fr) x with
  | none => simp [optW]
  | some q =>
    constructor
    · rintro ⟨v, H', h, hk⟩; cases h; exact hk
    · intro h; exact ⟨q.1, q.2, rfl, h⟩
/-- A call of a function value, kept closed until it is known. -/
def CallvK (T : Tbl) (v : Value) (args : List Value) (H : CH) (K : Value → CH → Prop) : Prop := match v with
  | .func (.func f) _ caps => WpF T f (args ++ caps.toList) H K
  | .func (.yield l) _ _ => WpY T l args H K
  | _ => False
theorem o_callv {fr : Fr} {H : CH} {g : Operand} {args : List Operand} {K : Value → CH → Prop} : WpO T fr H (.callv g args) K ↔ CallvK T (evF fr g) (args.map (evF fr)) H K := wpO_callv
theorem callvK_f {f : FuncId} {a caps : Array Value} {args : List Value} {H : CH} {K : Value → CH → Prop} : CallvK T (.func (.func f) a caps) args H K ↔ WpF T f (args ++ caps.toList) H K := Iff.rfl
theorem callvK_y {l : Nat} {a caps : Array Value} {args : List Value} {H : CH} {K : Value → CH → Prop} : CallvK T (.func (.yield l) a caps) args H K ↔ WpY T l args H K := Iff.rfl
/-- A loop over a function value, kept closed until it is known. -/
def RangeV (T : Tbl) (v : Value) (key : Nat × Nat) (fr : Fr) (H : CH) (Q : CExit → Fr → CH → Prop) : Prop := match v with
  | .func (.func f) _ caps => WpF T f (.func (.yield H.nx) #[] #[] :: caps.toList) (H.new (.loop .ready none fr key)) (RangeK H.nx fr Q)
  | _ => False
theorem r_range {g : Operand} {key : Nat × Nat} {fr : Fr} {H : CH} {Q : CExit → Fr → CH → Prop} : WpR T (.rangeF g key) fr H Q ↔ RangeV T (evF fr g) key fr H Q := by
  constructor
  · rintro ⟨n, x, fr', H', h1, h2⟩
    simp only [evR] at h1
    unfold RangeV
    split at h1
    · rename_i f fst caps hg
      rw [hg]
      cases hc : (evH T n).call f (Value.func (.yield H.nx) #[] #[] :: caps.toList) (H.new (.loop .ready none fr key)) with
      | none => rw [hc] at h1; cases h1
      | some q =>
        rw [hc] at h1
        refine ⟨n, q.1, q.2, hc, ?_⟩
        simp only at h1
        split at h1
        · rename_i st pend fr1 key1 ho
          split at h1
          · cases h1
          · rename_i hb
            simp only [Option.some.injEq, Prod.mk.injEq] at h1
            obtain ⟨rfl, rfl, rfl⟩ := h1
            exact ⟨_, _, _, _, ho, hb, h2⟩
        · cases h1
    · cases h1
  · intro h
    unfold RangeV at h
    split at h
    · rename_i f fst caps hg
      exact wpR_rangeF hg h
    · exact h.elim
theorem rangeV_f {f : FuncId} {a caps : Array Value} {key : Nat × Nat} {fr : Fr} {H : CH} {Q : CExit → Fr → CH → Prop} : RangeV T (.func (.func f) a caps) key fr H Q ↔ WpF T f (.func (.yield H.nx) #[] #[] :: caps.toList) (H.new (.loop .ready none fr key)) (RangeK H.nx fr Q) := Iff.rfl
theorem rangeK_some {l : Nat} {fr : Fr} {Q : CExit → Fr → CH → Prop} {v : Value} {H : CH} {st : LoopState} {pend : Option (Option Nat)} {fr' : Fr} {key : Nat × Nat} (h : H.ob l = .loop st pend fr' key) (hs : st ≠ .busy) : RangeK l fr Q v H ↔ Q (jumpX pend) fr (H.set l (.loop .exhausted pend fr' key)) :=
  ⟨fun ⟨_, _, _, _, h1, _, h2⟩ => by rw [h] at h1; cases h1; exact h2, fun k => ⟨_, _, _, _, h, hs, k⟩⟩
theorem roundK_some {l : Nat} {body : RCode} {Q : Value → CH → Prop} {fr : Fr} {H : CH} {pend : Option (Option Nat)} {fr0 : Fr} {key : Nat × Nat} (h : H.ob l = .loop .ready pend fr0 key) : RoundK T l body Q .normal fr H ↔ WpR T body fr (H.set l (.loop .busy pend fr0 key)) (EndK l Q) :=
  ⟨fun ⟨_, _, _, _, h1, h2⟩ => by rw [h] at h1; cases h1; exact h2, fun k => ⟨rfl, _, _, _, h, k⟩⟩
theorem endK_n {l : Nat} {Q : Value → CH → Prop} {fr : Fr} {H : CH} {st : LoopState} {pend : Option (Option Nat)} {fr0 : Fr} {key : Nat × Nat} (h : H.ob l = .loop st pend fr0 key) : EndK l Q .normal fr H ↔ Q (.bool true) (H.set l (.loop .ready none fr0 key)) :=
  ⟨fun ⟨_, _, _, _, h1, h2⟩ => by rw [h] at h1; cases h1; exact h2, fun k => ⟨_, _, _, _, h, k⟩⟩
theorem endK_r {l : Nat} {Q : Value → CH → Prop} {fr : Fr} {H : CH} {st : LoopState} {pend : Option (Option Nat)} {fr0 : Fr} {key : Nat × Nat} (h : H.ob l = .loop st pend fr0 key) : EndK l Q .ret fr H ↔ Q (.bool false) (H.set l (.loop .done (some none) fr0 key)) :=
  ⟨fun ⟨_, _, _, _, h1, h2⟩ => by rw [h] at h1; cases h1; exact h2, fun k => ⟨_, _, _, _, h, k⟩⟩
theorem endK_e {l i : Nat} {Q : Value → CH → Prop} {fr : Fr} {H : CH} {st : LoopState} {pend : Option (Option Nat)} {fr0 : Fr} {key : Nat × Nat} (h : H.ob l = .loop st pend fr0 key) : EndK l Q (.exit i) fr H ↔ Q (.bool false) (H.set l (.loop .done (some (some i)) fr0 key)) :=
  ⟨fun ⟨_, _, _, _, h1, h2⟩ => by rw [h] at h1; cases h1; exact h2, fun k => ⟨_, _, _, _, h, k⟩⟩
theorem o_call {fr : Fr} {H : CH} {f : FuncId} {args : List Operand} {K : Value → CH → Prop} : WpO T fr H (.call f args) K ↔ WpF T f (args.map (evF fr)) H K := Iff.rfl
theorem putF_get {fr : Fr} {d t : Nat} {v : Value} : putF fr (some d) v t = if t = d then v else fr t := rfl
theorem putF_none {fr : Fr} {v : Value} : putF fr none v = fr := rfl
theorem evF_t {fr : Fr} {t : Nat} : evF fr (.tmp t) = fr t := rfl
theorem evF_c {fr : Fr} {v : Value} : evF fr (.const v) = v := rfl
theorem evF_f {fr : Fr} {f : FuncId} : evF fr (.func f) = .func (.func f) #[] #[] := rfl
theorem new_nx {H : CH} {o : CObj} : (H.new o).nx = H.nx + 1 := rfl
theorem set_nx {H : CH} {l : Nat} {o : CObj} : (H.set l o).nx = H.nx := rfl
theorem new_ob {H : CH} {o : CObj} {k : Nat} (h : k = H.nx) : (H.new o).ob k = o := by simp [CH.new, h]
theorem new_ne {H : CH} {o : CObj} {k : Nat} (h : k ≠ H.nx) : (H.new o).ob k = H.ob k := by simp [CH.new, h]
theorem set_ob {H : CH} {o : CObj} {l : Nat} : (H.set l o).ob l = o := by simp [CH.set]
theorem set_ne {H : CH} {o : CObj} {l k : Nat} (h : k ≠ l) : (H.set l o).ob k = H.ob k := by simp [CH.set, h]
theorem wpF_in {f : FuncId} {rf : RFunc} (he : T.ext f = false) (hf : T.fn f = some rf) {args : List Value} {H : CH} {Q : Value → CH → Prop} (h : WpR T rf.body (fun t => args.getD t undef) H (FunK rf.res Q)) : WpF T f args H Q := by
  refine (wpF_fn he hf).2 (h.mono fun x fr' H' hx => ?_)
  unfold FunK at hx
  cases x with
  | exit i => exact hx
  | normal => simp only at hx ⊢; cases hr : resL fr' H' rf.res with
    | none => rw [hr] at hx; exact hx.elim
    | some vs => rw [hr] at hx; exact ⟨vs, rfl, hx⟩
  | ret => simp only at hx ⊢; cases hr : resL fr' H' rf.res with
    | none => rw [hr] at hx; exact hx.elim
    | some vs => rw [hr] at hx; exact ⟨vs, rfl, hx⟩
theorem getD_zero {v : Value} {r : List Value} : (v :: r).getD 0 undef = v := rfl
theorem getD_succ {v : Value} {r : List Value} {n : Nat} : (v :: r).getD (n + 1) undef = r.getD n undef := rfl
/-- A loop: what holds at every head, and a number that falls. -/
def LoopI (I : Nat → Fr → CH → Prop) (n : Nat) (Q : CExit → Fr → CH → Prop) : CExit → Fr → CH → Prop := fun x fr H => match x with
  | .normal => ∃ m, m < n ∧ I m fr H
  | x => Q x fr H
theorem loopI_n {I : Nat → Fr → CH → Prop} {n : Nat} {Q : CExit → Fr → CH → Prop} {fr : Fr} {H : CH} : LoopI I n Q .normal fr H ↔ ∃ m, m < n ∧ I m fr H := Iff.rfl
theorem loopI_r {I : Nat → Fr → CH → Prop} {n : Nat} {Q : CExit → Fr → CH → Prop} {fr : Fr} {H : CH} : LoopI I n Q .ret fr H ↔ Q .ret fr H := Iff.rfl
theorem loopI_e {I : Nat → Fr → CH → Prop} {n i : Nat} {Q : CExit → Fr → CH → Prop} {fr : Fr} {H : CH} : LoopI I n Q (.exit i) fr H ↔ Q (.exit i) fr H := Iff.rfl
theorem loop_inv {c : RCode} {Q : CExit → Fr → CH → Prop} (I : Nat → Fr → CH → Prop) (step : ∀ n fr H, I n fr H → WpR T c fr H (LoopI I n Q)) : ∀ {n : Nat} {fr : Fr} {H : CH}, I n fr H → WpR T (.loop c) fr H Q := by
  intro n
  induction n using Nat.strongRecOn with
  | _ n ih =>
    intro fr H h
    refine wpR_loop.2 ((step n fr H h).mono fun x fr' H' hx => ?_)
    cases x with
    | normal => obtain ⟨m, hm, hi⟩ := hx; exact ih m hm hi
    | exit i => exact hx
    | ret => exact hx
section ints
variable {k : IntKind} {a b : Int}
theorem b_add : svOf (binOp .add 0 (.int k a) (.int k b)) = some (.int k (k.wrap (a + b))) := by simp [binOp, Op.intArith, svOf, Pure.pure]
theorem b_sub : svOf (binOp .sub 0 (.int k a) (.int k b)) = some (.int k (k.wrap (a - b))) := by simp [binOp, Op.intArith, svOf, Pure.pure]
theorem b_mul : svOf (binOp .mul 0 (.int k a) (.int k b)) = some (.int k (k.wrap (a * b))) := by simp [binOp, Op.intArith, svOf, Pure.pure]
theorem b_quo (h : b ≠ 0) : svOf (binOp .quo 0 (.int k a) (.int k b)) = some (.int k (k.wrap (a.tdiv b))) := by simp [binOp, Op.intDiv, svOf, Pure.pure, h]
theorem b_rem (h : b ≠ 0) : svOf (binOp .rem 0 (.int k a) (.int k b)) = some (.int k (a.tmod b)) := by simp [binOp, Op.intDiv, svOf, Pure.pure, h]
theorem b_eql : svOf (binOp .eql 0 (.int k a) (.int k b)) = some (.bool (decide (a = b))) := by simp [binOp, Op.intCmp, svOf, Pure.pure]; by_cases h : a = b <;> simp [h]
theorem b_neq : svOf (binOp .neq 0 (.int k a) (.int k b)) = some (.bool (decide (a ≠ b))) := by simp [binOp, Op.intCmp, svOf, Pure.pure]; by_cases h : a = b <;> simp [h]
theorem b_lss : svOf (binOp .lss 0 (.int k a) (.int k b)) = some (.bool (decide (a < b))) := by simp [binOp, Op.intCmp, svOf, Pure.pure]
theorem b_leq : svOf (binOp .leq 0 (.int k a) (.int k b)) = some (.bool (decide (a ≤ b))) := by simp [binOp, Op.intCmp, svOf, Pure.pure]
theorem b_gtr : svOf (binOp .gtr 0 (.int k a) (.int k b)) = some (.bool (decide (b < a))) := by simp [binOp, Op.intCmp, svOf, Pure.pure]
theorem b_geq : svOf (binOp .geq 0 (.int k a) (.int k b)) = some (.bool (decide (b ≤ a))) := by simp [binOp, Op.intCmp, svOf, Pure.pure]
theorem b_and : svOf (binOp .and 0 (.int k a) (.int k b)) = some (.int k (k.wrap (BitVec.ofInt k.bits a &&& BitVec.ofInt k.bits b).toNat)) := by simp [binOp, Op.intBits, svOf, Pure.pure]
theorem b_or : svOf (binOp .or 0 (.int k a) (.int k b)) = some (.int k (k.wrap (BitVec.ofInt k.bits a ||| BitVec.ofInt k.bits b).toNat)) := by simp [binOp, Op.intBits, svOf, Pure.pure]
theorem b_shl {k' : IntKind} (h : 0 ≤ b) : svOf (binOp .shl 0 (.int k a) (.int k' b)) = some (.int k (k.wrap (a * 2 ^ min b.toNat k.bits))) := by
  have : ¬ b < 0 := by omega
  simp [binOp, Op.shift, svOf, Pure.pure, this]
theorem b_shr {k' : IntKind} (h : 0 ≤ b) : svOf (binOp .shr 0 (.int k a) (.int k' b)) = some (.int k (a.fdiv (2 ^ min b.toNat k.bits))) := by
  have : ¬ b < 0 := by omega
  simp [binOp, Op.shift, svOf, Pure.pure, this]
theorem u_not {t : Bool} : svOf (Op.unary .not (.bool t)) = some (.bool (!t)) := rfl
theorem w_i64 (h1 : -9223372036854775808 ≤ a) (h2 : a ≤ 9223372036854775807) : IntKind.i64.wrap a = a := by rw [IntKind.wrap_i64]; omega
theorem w_u64 (h1 : 0 ≤ a) (h2 : a < 18446744073709551616) : IntKind.u64.wrap a = a := by rw [IntKind.wrap_u64]; omega
theorem w_u8 (h1 : 0 ≤ a) (h2 : a < 256) : IntKind.u8.wrap a = a := by rw [IntKind.wrap_u8]; omega
theorem t_div (h : 0 ≤ a) : a.tdiv b = a / b := by rw [Int.tdiv_eq_ediv_of_nonneg h]
theorem t_mod (h : 0 ≤ a) : a.tmod b = a % b := by rw [Int.tmod_eq_emod_of_nonneg h]
end ints


end Can
end Go.Proofs.Ytmpojphjongdcaa
