/- Canonical runs: what is to be shown of a run, rule by rule. -/
import Derived.Test.YtmpojphjongdcaaCanL
namespace Go.Proofs.Ytmpojphjongdcaa
namespace Can
open Go Go.RowKit
set_option linter.unusedSimpArgs false
set_option linter.unusedVariables false

structure HLe (h h' : Hd) : Prop where
  call : ∀ f a H r, h.call f a H = some r → h'.call f a H = some r
  round : ∀ l a H r, h.round l a H = some r → h'.round l a H = some r
theorem rop_mono {h h' : Hd} (hle : HLe h h') {fr : Fr} {H : CH} {o : ROp} {r : Value × CH} (hr : rop h fr H o = some r) : rop h' fr H o = some r := by
  cases o with
  | call f args => exact hle.call _ _ _ _ hr
  | callv g args =>
    simp only [rop] at hr ⊢
    split at hr
    · exact hle.call _ _ _ _ hr
    · exact hle.round _ _ _ _ hr
    · cases hr
  | _ => exact hr
theorem stepI_mono {h h' : Hd} (hle : HLe h h') {it : Item} {fr : Fr} {H : CH} {r : Fr × CH} (hr : stepI h it fr H = some r) : stepI h' it fr H = some r := by
  simp only [stepI] at hr ⊢
  split at hr
  · cases hrop : rop h fr H it.op with
    | none => rw [hrop] at hr; cases hr
    | some q => rw [hrop] at hr; rw [rop_mono hle hrop]; exact hr
  · exact hr
  · cases hr
theorem runI_mono {h h' : Hd} (hle : HLe h h') : ∀ {its : List Item} {fr : Fr} {H : CH} {r : Fr × CH}, runI h its fr H = some r → runI h' its fr H = some r
  | [], fr, H, r, hr => hr
  | it :: its, fr, H, r, hr => by
    simp only [runI] at hr ⊢
    cases hs : stepI h it fr H with
    | none => rw [hs] at hr; cases hr
    | some q => rw [hs] at hr; rw [stepI_mono hle hs]; exact runI_mono hle hr
theorem runD_mono {h h' : Hd} (hle : HLe h h') : ∀ {its : List Item} {fr : Fr} {H : CH} {r : Fr × CH × List CH}, runD h its fr H = some r → runD h' its fr H = some r
  | [], fr, H, r, hr => hr
  | it :: its, fr, H, r, hr => by
    simp only [runD] at hr ⊢
    cases hs : stepI h it fr H with
    | none => rw [hs] at hr; cases hr
    | some q =>
      rw [hs] at hr
      rw [stepI_mono hle hs]
      simp only at hr ⊢
      cases hd : runD h its q.1 q.2 with
      | none => rw [hd] at hr; cases hr
      | some d => rw [hd] at hr; rw [runD_mono hle hd]; exact hr
theorem evD_mono {h h' : Hd} (hle : HLe h h') {d : DReg} {fr : Fr} {H : CH} {r : Fr × CH} (hr : evD h d fr H = some r) : evD h' d fr H = some r := by
  simp only [evD] at hr ⊢
  cases hd : runD h d.its fr H with
  | none => rw [hd] at hr; cases hr
  | some q => rw [hd] at hr; rw [runD_mono hle hd]; exact hr
theorem loopN_mono {n m : Nat} (hnm : n ≤ m) {f g : Fr → CH → Res} (hfg : ∀ fr H r, f fr H = some r → g fr H = some r) : ∀ {fr : Fr} {H : CH} {r : CExit × Fr × CH}, loopN n f fr H = some r → loopN m g fr H = some r := by
  induction n generalizing m with
  | zero => intro fr H r hr; simp [loopN] at hr
  | succ n ih =>
    intro fr H r hr
    obtain ⟨m, rfl⟩ : ∃ k, m = k + 1 := ⟨m - 1, by omega⟩
    simp only [loopN] at hr ⊢
    cases hf : f fr H with
    | none => rw [hf] at hr; cases hr
    | some q =>
      obtain ⟨x, fr1, H1⟩ := q
      rw [hf] at hr
      rw [hfg _ _ _ hf]
      cases x with
      | normal => exact ih (m := m) (by omega) hr
      | exit i => exact hr
      | ret => exact hr
theorem evR_mono {h h' : Hd} (hle : HLe h h') {n m : Nat} (hnm : n ≤ m) : ∀ {c : RCode} {fr : Fr} {H : CH} {r : CExit × Fr × CH}, evR h n c fr H = some r → evR h' m c fr H = some r := by
  intro c
  induction c with
  | skip => intro fr H r hr; exact hr
  | reg its =>
    intro fr H r hr
    simp only [evR] at hr ⊢
    cases hi : runI h its fr H with
    | none => rw [hi] at hr; cases hr
    | some q => rw [hi] at hr; rw [runI_mono hle hi]; exact hr
  | drw d =>
    intro fr H r hr
    simp only [evR] at hr ⊢
    cases hi : evD h d fr H with
    | none => rw [hi] at hr; cases hr
    | some q => rw [hi] at hr; rw [evD_mono hle hi]; exact hr
  | seq a b iha ihb =>
    intro fr H r hr
    simp only [evR] at hr ⊢
    cases ha : evR h n a fr H with
    | none => rw [ha] at hr; cases hr
    | some q =>
      obtain ⟨x, fr1, H1⟩ := q
      rw [ha] at hr
      rw [iha ha]
      cases x with
      | normal => exact ihb hr
      | exit i => exact hr
      | ret => exact hr
  | cond c a b iha ihb =>
    intro fr H r hr
    simp only [evR] at hr ⊢
    split at hr
    · exact iha hr
    · exact ihb hr
    · cases hr
  | block id c ih =>
    intro fr H r hr
    simp only [evR] at hr ⊢
    cases ha : evR h n c fr H with
    | none => rw [ha] at hr; cases hr
    | some q => rw [ha] at hr; rw [ih ha]; exact hr
  | loop c ih =>
    intro fr H r hr
    simp only [evR] at hr ⊢
    exact loopN_mono hnm (fun _ _ _ hq => ih hq) hr
  | exit id => intro fr H r hr; exact hr
  | ret => intro fr H r hr; exact hr
  | rangeF g key =>
    intro fr H r hr
    simp only [evR] at hr ⊢
    split at hr
    · rename_i f fst caps hg
      cases hc : h.call f (Value.func (.yield H.nx) #[] #[] :: caps.toList) (H.new (.loop .ready none fr key)) with
      | none => rw [hc] at hr; cases hr
      | some q => rw [hc] at hr; rw [hle.call _ _ _ _ hc]; exact hr
    · cases hr
theorem evH_mono {T : Tbl} : ∀ {n m : Nat}, n ≤ m → HLe (evH T n) (evH T m)
  | 0, m, _ => ⟨fun f a H r hr => by simp [evH] at hr, fun f a H r hr => by simp [evH] at hr⟩
  | n + 1, m, hle => by
    obtain ⟨m, rfl⟩ : ∃ k, m = k + 1 := ⟨m - 1, by omega⟩
    have ih := evH_mono (T := T) (n := n) (m := m) (by omega)
    have hnm : n ≤ m := by omega
    refine ⟨fun f a H r hr => ?_, fun l a H r hr => ?_⟩
    · simp only [evH] at hr ⊢
      split at hr
      · rename_i he; rw [if_pos he]; exact hr
      · rename_i he
        rw [if_neg he]
        split at hr
        · rename_i rf hrf
          cases hb : evR (evH T n) n rf.body (fun t => a.getD t undef) H with
          | none => rw [hb] at hr; cases hr
          | some q => rw [hb] at hr; rw [evR_mono ih hnm hb]; exact hr
        · cases hr
    · simp only [evH] at hr ⊢
      split at hr
      · rename_i pend fr key ho
        split at hr
        · rename_i ps asg body hl
          split at hr
          · rename_i hlen
            rw [if_pos hlen]
            cases hb : evR (evH T n) n asg (putPs fr ps a) H with
            | none => rw [hb] at hr; cases hr
            | some q =>
              obtain ⟨x, fr2, H2⟩ := q
              rw [hb] at hr
              rw [evR_mono ih hnm hb]
              cases x with
              | normal =>
                simp only at hr ⊢
                split at hr
                · rename_i pend0 fr0 key0 ho2
                  cases hb2 : evR (evH T n) n body fr2 (H2.set l (.loop .busy pend0 fr0 key0)) with
                  | none => rw [hb2] at hr; cases hr
                  | some q2 => rw [hb2] at hr; rw [evR_mono ih hnm hb2]; exact hr
                · cases hr
              | ret => cases hr
              | exit i => cases hr
          · cases hr
        · cases hr
      · cases hr
theorem evFn_mono {T : Tbl} {n m : Nat} (h : n ≤ m) : ∀ f a H r, evFn T n f a H = some r → evFn T m f a H = some r := (evH_mono h).call

/-- Called so, it ends, and 'Q' holds behind it. -/
def WpF (T : Tbl) (f : FuncId) (args : List Value) (H : CH) (Q : Value → CH → Prop) : Prop := ∃ n v H', evFn T n f args H = some (v, H') ∧ Q v H'
/-- A round of the loop l. -/
def WpY (T : Tbl) (l : Nat) (args : List Value) (H : CH) (Q : Value → CH → Prop) : Prop := ∃ n v H', (evH T n).round l args H = some (v, H') ∧ Q v H'
def WpI (T : Tbl) (its : List Item) (fr : Fr) (H : CH) (K : Fr → CH → Prop) : Prop := ∃ n fr' H', runI (evH T n) its fr H = some (fr', H') ∧ K fr' H'
def WpD (T : Tbl) (its : List Item) (fr : Fr) (H : CH) (K : Fr → CH → List CH → Prop) : Prop := ∃ n fr' H' l, runD (evH T n) its fr H = some (fr', H', l) ∧ K fr' H' l
def WpR (T : Tbl) (c : RCode) (fr : Fr) (H : CH) (Q : CExit → Fr → CH → Prop) : Prop := ∃ n x fr' H', evR (evH T n) n c fr H = some (x, fr', H') ∧ Q x fr' H'
variable {T : Tbl}
theorem WpF.mono {f : FuncId} {args : List Value} {H : CH} {Q Q' : Value → CH → Prop} (h : WpF T f args H Q) (hq : ∀ v H', Q v H' → Q' v H') : WpF T f args H Q' := by
  obtain ⟨n, v, H', h1, h2⟩ := h; exact ⟨n, v, H', h1, hq _ _ h2⟩
theorem WpR.mono {c : RCode} {fr : Fr} {H : CH} {Q Q' : CExit → Fr → CH → Prop} (h : WpR T c fr H Q) (hq : ∀ x fr' H', Q x fr' H' → Q' x fr' H') : WpR T c fr H Q' := by
  obtain ⟨n, x, fr', H', h1, h2⟩ := h; exact ⟨n, x, fr', H', h1, hq _ _ _ h2⟩
theorem wpI_nil {fr : Fr} {H : CH} {K : Fr → CH → Prop} : WpI T [] fr H K ↔ K fr H :=
  ⟨fun ⟨n, fr', H', h1, h2⟩ => by simp [runI] at h1; rw [h1.1, h1.2]; exact h2, fun h => ⟨0, fr, H, rfl, h⟩⟩
/-- What one operation leaves. -/
def WpO (T : Tbl) (fr : Fr) (H : CH) (o : ROp) (K : Value → CH → Prop) : Prop := ∃ n v H', rop (evH T n) fr H o = some (v, H') ∧ K v H'
theorem wpI_cons {it : Item} {r : List Item} {fr : Fr} {H : CH} {K : Fr → CH → Prop} : WpI T (it :: r) fr H K ↔
    match wantedF fr it.guard with
    | some true => WpO T fr H it.op fun v H' => WpI T r (putF fr it.dst v) H' K
    | some false => WpI T r (putF fr it.dst skipV) H K
    | none => False := by
  constructor
  · rintro ⟨n, fr', H', h1, h2⟩
    simp only [runI, stepI] at h1
    cases hw : wantedF fr it.guard with
    | none => rw [hw] at h1; cases h1
    | some b =>
      rw [hw] at h1
      cases b with
      | true =>
        simp only at h1 ⊢
        cases hr : rop (evH T n) fr H it.op with
        | none => rw [hr] at h1; cases h1
        | some q => rw [hr] at h1; exact ⟨n, q.1, q.2, hr, n, fr', H', h1, h2⟩
      | false => exact ⟨n, fr', H', h1, h2⟩
  · intro h
    cases hw : wantedF fr it.guard with
    | none => rw [hw] at h; exact h.elim
    | some b =>
      rw [hw] at h
      cases b with
      | true =>
        obtain ⟨n, v, H1, h1, m, fr', H', h2, h3⟩ := h
        refine ⟨max n m, fr', H', ?_, h3⟩
        simp only [runI, stepI, hw]
        rw [rop_mono (evH_mono (Nat.le_max_left n m)) h1]
        exact runI_mono (evH_mono (Nat.le_max_right n m)) h2
      | false =>
        obtain ⟨n, fr', H', h1, h2⟩ := h
        exact ⟨n, fr', H', by simp only [runI, stepI, hw]; exact h1, h2⟩
theorem wpO_p {fr : Fr} {H : CH} {x : POp} {K : Value → CH → Prop} : WpO T fr H (.p x) K ↔ ∃ v, pop (evF fr) x = some v ∧ K v H := by
  constructor
  · rintro ⟨n, v, H', h1, h2⟩
    simp only [rop] at h1
    cases hp : pop (evF fr) x with
    | none => rw [hp] at h1; cases h1
    | some u => rw [hp] at h1; cases h1; exact ⟨_, rfl, h2⟩
  · rintro ⟨v, h1, h2⟩
    exact ⟨0, v, H, by simp [rop, h1], h2⟩
theorem wpO_l {fr : Fr} {H : CH} {x : LOp} {K : Value → CH → Prop} : WpO T fr H (.l x) K ↔ ∃ v, lop H (evF fr) x = some v ∧ K v H := by
  constructor
  · rintro ⟨n, v, H', h1, h2⟩
    simp only [rop] at h1
    cases hp : lop H (evF fr) x with
    | none => rw [hp] at h1; cases h1
    | some u => rw [hp] at h1; cases h1; exact ⟨_, rfl, h2⟩
  · rintro ⟨v, h1, h2⟩
    exact ⟨0, v, H, by simp [rop, h1], h2⟩
theorem wpO_a {fr : Fr} {H : CH} {x : AOp} {K : Value → CH → Prop} : WpO T fr H (.a x) K ↔ ∃ cs e k mk, aop (evF fr) x = some (cs, e, k, mk) ∧ K (akV mk H.nx) (H.new (.cells cs e k)) := by
  constructor
  · rintro ⟨n, v, H', h1, h2⟩
    simp only [rop] at h1
    cases hp : aop (evF fr) x with
    | none => rw [hp] at h1; cases h1
    | some u => obtain ⟨cs, e, k, mk⟩ := u; rw [hp] at h1; cases h1; exact ⟨cs, e, k, mk, rfl, h2⟩
  · rintro ⟨cs, e, k, mk, h1, h2⟩
    exact ⟨0, _, _, by simp [rop, h1], h2⟩
theorem wpO_w {fr : Fr} {H : CH} {x : WOp} {K : Value → CH → Prop} : WpO T fr H (.w x) K ↔ ∃ v H', wop H (evF fr) x = some (v, H') ∧ K v H' := by
  constructor
  · rintro ⟨n, v, H', h1, h2⟩; exact ⟨v, H', h1, h2⟩
  · rintro ⟨v, H', h1, h2⟩; exact ⟨0, v, H', h1, h2⟩
theorem wpO_call {fr : Fr} {H : CH} {f : FuncId} {args : List Operand} {K : Value → CH → Prop} : WpO T fr H (.call f args) K ↔ WpF T f (args.map (evF fr)) H K := Iff.rfl
theorem wpO_callv {fr : Fr} {H : CH} {g : Operand} {args : List Operand} {K : Value → CH → Prop} : WpO T fr H (.callv g args) K ↔
    match evF fr g with
    | .func (.func f) _ caps => WpF T f (args.map (evF fr) ++ caps.toList) H K
    | .func (.yield l) _ _ => WpY T l (args.map (evF fr)) H K
    | _ => False := by
  constructor
  · rintro ⟨n, v, H', h1, h2⟩
    simp only [rop] at h1
    split at h1
    · rename_i hg; simp only [hg]; exact ⟨n, v, H', h1, h2⟩
    · rename_i hg; simp only [hg]; exact ⟨n, v, H', h1, h2⟩
    · cases h1
  · intro h
    split at h
    · rename_i hg
      obtain ⟨n, v, H', h1, h2⟩ := h
      exact ⟨n, v, H', by simp only [rop, hg]; exact h1, h2⟩
    · rename_i hg
      obtain ⟨n, v, H', h1, h2⟩ := h
      exact ⟨n, v, H', by simp only [rop, hg]; exact h1, h2⟩
    · exact h.elim
theorem wpR_skip {fr : Fr} {H : CH} {Q : CExit → Fr → CH → Prop} : WpR T .skip fr H Q ↔ Q .normal fr H :=
  ⟨fun ⟨n, x, fr', H', h1, h2⟩ => by simp only [evR, Option.some.injEq, Prod.mk.injEq] at h1; obtain ⟨rfl, rfl, rfl⟩ := h1; exact h2, fun h => ⟨0, _, _, _, rfl, h⟩⟩
theorem wpR_exit {id : Nat} {fr : Fr} {H : CH} {Q : CExit → Fr → CH → Prop} : WpR T (.exit id) fr H Q ↔ Q (.exit id) fr H :=
  ⟨fun ⟨n, x, fr', H', h1, h2⟩ => by simp only [evR, Option.some.injEq, Prod.mk.injEq] at h1; obtain ⟨rfl, rfl, rfl⟩ := h1; exact h2, fun h => ⟨0, _, _, _, rfl, h⟩⟩
theorem wpR_ret {fr : Fr} {H : CH} {Q : CExit → Fr → CH → Prop} : WpR T .ret fr H Q ↔ Q .ret fr H :=
  ⟨fun ⟨n, x, fr', H', h1, h2⟩ => by simp only [evR, Option.some.injEq, Prod.mk.injEq] at h1; obtain ⟨rfl, rfl, rfl⟩ := h1; exact h2, fun h => ⟨0, _, _, _, rfl, h⟩⟩
theorem wpR_reg {its : List Item} {fr : Fr} {H : CH} {Q : CExit → Fr → CH → Prop} : WpR T (.reg its) fr H Q ↔ WpI T its fr H (Q .normal) := by
  constructor
  · rintro ⟨n, x, fr', H', h1, h2⟩
    simp only [evR] at h1
    cases hr : runI (evH T n) its fr H with
    | none => rw [hr] at h1; cases h1
    | some q => rw [hr] at h1; cases h1; exact ⟨n, _, _, hr, h2⟩
  · rintro ⟨n, fr', H', h1, h2⟩
    exact ⟨n, _, _, _, by simp only [evR, h1]; rfl, h2⟩
theorem wpR_drw {d : DReg} {fr : Fr} {H : CH} {Q : CExit → Fr → CH → Prop} : WpR T (.drw d) fr H Q ↔ WpD T d.its fr H fun fr' H' l => (∀ p ∈ d.chk, ∃ G, (H :: l)[p.2]? = some G ∧ Again fr' G p.1) ∧ Q .normal fr' H' := by
  constructor
  · rintro ⟨n, x, fr', H', h1, h2⟩
    simp only [evR, evD] at h1
    cases hr : runD (evH T n) d.its fr H with
    | none => rw [hr] at h1; cases h1
    | some q =>
      obtain ⟨f, K, l⟩ := q
      rw [hr] at h1
      simp only at h1
      split at h1
      · rename_i hc; cases h1; exact ⟨n, _, _, _, hr, hc, h2⟩
      · cases h1
  · rintro ⟨n, fr', H', l, h1, h2, h3⟩
    refine ⟨n, _, fr', H', ?_, h3⟩
    simp only [evR, evD, h1]
    rw [if_pos h2]; rfl
theorem wpD_nil {fr : Fr} {H : CH} {K : Fr → CH → List CH → Prop} : WpD T [] fr H K ↔ K fr H [] :=
  ⟨fun ⟨n, fr', H', l, h1, h2⟩ => by simp only [runD, Option.some.injEq, Prod.mk.injEq] at h1; obtain ⟨rfl, rfl, rfl⟩ := h1; exact h2, fun h => ⟨0, fr, H, [], rfl, h⟩⟩
theorem wpD_cons {it : Item} {r : List Item} {fr : Fr} {H : CH} {K : Fr → CH → List CH → Prop} : WpD T (it :: r) fr H K ↔
    match wantedF fr it.guard with
    | some true => WpO T fr H it.op fun v H' => WpD T r (putF fr it.dst v) H' fun f L l => K f L (if isW it.op then H' :: l else l)
    | some false => WpD T r (putF fr it.dst skipV) H fun f L l => K f L (if isW it.op then H :: l else l)
    | none => False := by
  constructor
  · rintro ⟨n, fr', H', l, h1, h2⟩
    simp only [runD, stepI] at h1
    cases hw : wantedF fr it.guard with
    | none => rw [hw] at h1; cases h1
    | some b =>
      rw [hw] at h1
      cases b with
      | true =>
        simp only at h1 ⊢
        cases hr : rop (evH T n) fr H it.op with
        | none => rw [hr] at h1; cases h1
        | some q =>
          rw [hr] at h1
          simp only [Option.map_some] at h1
          cases hd : runD (evH T n) r (putF fr it.dst q.1) q.2 with
          | none => rw [hd] at h1; cases h1
          | some z =>
            obtain ⟨a, b, c⟩ := z
            rw [hd] at h1
            simp only [Option.map_some, Option.some.injEq, Prod.mk.injEq] at h1
            obtain ⟨rfl, rfl, rfl⟩ := h1
            exact ⟨n, q.1, q.2, hr, n, _, _, _, hd, h2⟩
      | false =>
        simp only at h1 ⊢
        cases hd : runD (evH T n) r (putF fr it.dst skipV) H with
        | none => rw [hd] at h1; cases h1
        | some z =>
          obtain ⟨a, b, c⟩ := z
          rw [hd] at h1
          simp only [Option.map_some, Option.some.injEq, Prod.mk.injEq] at h1
          obtain ⟨rfl, rfl, rfl⟩ := h1
          exact ⟨n, _, _, _, hd, h2⟩
  · intro h
    cases hw : wantedF fr it.guard with
    | none => rw [hw] at h; exact h.elim
    | some b =>
      rw [hw] at h
      cases b with
      | true =>
        obtain ⟨n, v, H1, h1, m, fr', H', l, h2, h3⟩ := h
        refine ⟨max n m, fr', H', _, ?_, h3⟩
        simp only [runD, stepI, hw]
        rw [rop_mono (evH_mono (Nat.le_max_left n m)) h1]
        simp only [Option.map_some]
        rw [runD_mono (evH_mono (Nat.le_max_right n m)) h2]
        rfl
      | false =>
        obtain ⟨n, fr', H', l, h1, h2⟩ := h
        exact ⟨n, fr', H', _, by simp only [runD, stepI, hw, h1]; rfl, h2⟩
theorem wpR_seq {a b : RCode} {fr : Fr} {H : CH} {Q : CExit → Fr → CH → Prop} : WpR T (.seq a b) fr H Q ↔ WpR T a fr H fun x fr' H' => match x with
    | .normal => WpR T b fr' H' Q
    | x => Q x fr' H' := by
  constructor
  · rintro ⟨n, x, fr', H', h1, h2⟩
    simp only [evR] at h1
    cases ha : evR (evH T n) n a fr H with
    | none => rw [ha] at h1; cases h1
    | some q =>
      obtain ⟨y, fr1, H1⟩ := q
      rw [ha] at h1
      refine ⟨n, y, fr1, H1, ha, ?_⟩
      cases y with
      | normal => exact ⟨n, x, fr', H', h1, h2⟩
      | exit i => cases h1; exact h2
      | ret => cases h1; exact h2
  · rintro ⟨n, y, fr1, H1, h1, h2⟩
    cases y with
    | normal =>
      obtain ⟨m, x, fr', H', h3, h4⟩ := h2
      refine ⟨max n m, x, fr', H', ?_, h4⟩
      simp only [evR]
      rw [evR_mono (evH_mono (Nat.le_max_left n m)) (Nat.le_max_left n m) h1]
      exact evR_mono (evH_mono (Nat.le_max_right n m)) (Nat.le_max_right n m) h3
    | exit i => exact ⟨n, _, fr1, H1, by simp only [evR, h1], h2⟩
    | ret => exact ⟨n, _, fr1, H1, by simp only [evR, h1], h2⟩
theorem wpR_cond {c : Operand} {a b : RCode} {fr : Fr} {H : CH} {Q : CExit → Fr → CH → Prop} : WpR T (.cond c a b) fr H Q ↔ match evF fr c with
    | .bool t => if t = true then WpR T a fr H Q else WpR T b fr H Q
    | _ => False := by
  constructor
  · rintro ⟨n, x, fr', H', h1, h2⟩
    simp only [evR] at h1
    split at h1
    · rename_i e; rw [e]; exact ⟨n, x, fr', H', h1, h2⟩
    · rename_i e; rw [e]; exact ⟨n, x, fr', H', h1, h2⟩
    · cases h1
  · intro h
    split at h
    · rename_i t e
      cases t with
      | true => obtain ⟨n, x, fr', H', h1, h2⟩ := h; exact ⟨n, x, fr', H', by simp only [evR, e]; exact h1, h2⟩
      | false => obtain ⟨n, x, fr', H', h1, h2⟩ := h; exact ⟨n, x, fr', H', by simp only [evR, e]; exact h1, h2⟩
    · exact h.elim
theorem wpR_block {id : Nat} {c : RCode} {fr : Fr} {H : CH} {Q : CExit → Fr → CH → Prop} : WpR T (.block id c) fr H Q ↔ WpR T c fr H fun x fr' H' => match x with
    | .exit i => if i = id then Q .normal fr' H' else Q (.exit i) fr' H'
    | x => Q x fr' H' := by
  constructor
  · rintro ⟨n, x, fr', H', h1, h2⟩
    simp only [evR] at h1
    cases ha : evR (evH T n) n c fr H with
    | none => rw [ha] at h1; cases h1
    | some q =>
      obtain ⟨y, fr1, H1⟩ := q
      rw [ha] at h1
      refine ⟨n, y, fr1, H1, ha, ?_⟩
      cases y with
      | normal => cases h1; exact h2
      | exit i =>
        simp only at h1 ⊢
        split at h1
        · rename_i e; rw [if_pos e]; cases h1; exact h2
        · rename_i e; rw [if_neg e]; cases h1; exact h2
      | ret => cases h1; exact h2
  · rintro ⟨n, y, fr1, H1, h1, h2⟩
    cases y with
    | normal => exact ⟨n, _, fr1, H1, by simp only [evR, h1], h2⟩
    | exit i =>
      simp only at h2
      split at h2
      · rename_i e; exact ⟨n, _, fr1, H1, by simp only [evR, h1, if_pos e], h2⟩
      · rename_i e; exact ⟨n, _, fr1, H1, by simp only [evR, h1, if_neg e], h2⟩
    | ret => exact ⟨n, _, fr1, H1, by simp only [evR, h1], h2⟩
theorem wpR_loop {c : RCode} {fr : Fr} {H : CH} {Q : CExit → Fr → CH → Prop} : WpR T (.loop c) fr H Q ↔ WpR T c fr H fun x fr' H' => match x with
    | .normal => WpR T (.loop c) fr' H' Q
    | x => Q x fr' H' := by
  constructor
  · rintro ⟨n, x, fr', H', h1, h2⟩
    simp only [evR] at h1
    cases n with
    | zero => simp [loopN] at h1
    | succ n =>
      simp only [loopN] at h1
      cases ha : evR (evH T (n + 1)) (n + 1) c fr H with
      | none => rw [ha] at h1; cases h1
      | some q =>
        obtain ⟨y, fr1, H1⟩ := q
        rw [ha] at h1
        refine ⟨n + 1, y, fr1, H1, ha, ?_⟩
        cases y with
        | normal => exact ⟨n + 1, x, fr', H', by simp only [evR]; exact loopN_mono (Nat.le_succ n) (fun _ _ _ h => h) h1, h2⟩
        | exit i => cases h1; exact h2
        | ret => cases h1; exact h2
  · rintro ⟨n, y, fr1, H1, h1, h2⟩
    cases y with
    | normal =>
      obtain ⟨m, x, fr', H', h3, h4⟩ := h2
      refine ⟨max n m + 1, x, fr', H', ?_, h4⟩
      simp only [evR, loopN] at h3 ⊢
      rw [evR_mono (evH_mono (Nat.le_succ_of_le (Nat.le_max_left n m))) (Nat.le_succ_of_le (Nat.le_max_left n m)) h1]
      exact loopN_mono (Nat.le_max_right n m) (fun _ _ _ h => evR_mono (evH_mono (Nat.le_succ_of_le (Nat.le_max_right n m))) (Nat.le_succ_of_le (Nat.le_max_right n m)) h) h3
    | exit i => exact ⟨n + 1, _, fr1, H1, by simp only [evR, loopN]; rw [evR_mono (evH_mono (Nat.le_succ n)) (Nat.le_succ n) h1], h2⟩
    | ret => exact ⟨n + 1, _, fr1, H1, by simp only [evR, loopN]; rw [evR_mono (evH_mono (Nat.le_succ n)) (Nat.le_succ n) h1], h2⟩
theorem wpF_fn {f : FuncId} {rf : RFunc} (he : T.ext f = false) (hf : T.fn f = some rf) {args : List Value} {H : CH} {Q : Value → CH → Prop} : WpF T f args H Q ↔ WpR T rf.body (fun t => args.getD t undef) H fun x fr' H' => match x with
    | .exit _ => False
    | _ => ∃ vs, resL fr' H' rf.res = some vs ∧ Q (tupleV vs) H' := by
  constructor
  · rintro ⟨n, v, H', h1, h2⟩
    cases n with
    | zero => simp [evFn, evH] at h1
    | succ n =>
      simp only [evFn, evH, he, hf, Bool.false_eq_true, if_false] at h1
      cases hb : evR (evH T n) n rf.body (fun t => args.getD t undef) H with
      | none => rw [hb] at h1; cases h1
      | some q =>
        obtain ⟨y, fr1, H1⟩ := q
        rw [hb] at h1
        refine ⟨n, y, fr1, H1, hb, ?_⟩
        cases y with
        | exit i => cases h1
        | normal =>
          simp only at h1 ⊢
          cases hv : resL fr1 H1 rf.res with
          | none => rw [hv] at h1; cases h1
          | some vs => rw [hv] at h1; cases h1; exact ⟨vs, rfl, h2⟩
        | ret =>
          simp only at h1 ⊢
          cases hv : resL fr1 H1 rf.res with
          | none => rw [hv] at h1; cases h1
          | some vs => rw [hv] at h1; cases h1; exact ⟨vs, rfl, h2⟩
  · rintro ⟨n, y, fr1, H1, h1, h2⟩
    cases y with
    | exit i => exact h2.elim
    | normal =>
      obtain ⟨vs, h3, h4⟩ := h2
      exact ⟨n + 1, tupleV vs, H1, by simp only [evFn, evH, he, hf, Bool.false_eq_true, if_false, h1, h3]; rfl, h4⟩
    | ret =>
      obtain ⟨vs, h3, h4⟩ := h2
      exact ⟨n + 1, tupleV vs, H1, by simp only [evFn, evH, he, hf, Bool.false_eq_true, if_false, h1, h3]; rfl, h4⟩
/-- What follows in a round: the body behind the assignment; the round's end. -/
def EndK (l : Nat) (Q : Value → CH → Prop) : CExit → Fr → CH → Prop := fun x _ H => ∃ st pend fr key, H.ob l = .loop st pend fr key ∧ Q (.bool (xPend x).isNone) (H.set l (.loop (if (xPend x).isNone then .ready else .done) (xPend x) fr key))
def RoundK (T : Tbl) (l : Nat) (body : RCode) (Q : Value → CH → Prop) : CExit → Fr → CH → Prop := fun x fr H => x = .normal ∧ ∃ pend fr0 key, H.ob l = .loop .ready pend fr0 key ∧ WpR T body fr (H.set l (.loop .busy pend fr0 key)) (EndK l Q)
theorem wpY_in {l : Nat} {args : List Value} {H : CH} {Q : Value → CH → Prop} {pend : Option (Option Nat)} {fr : Fr} {key : Nat × Nat} {ps : List Nat} {asg body : RCode} (ho : H.ob l = .loop .ready pend fr key) (hk : T.loop key = some (ps, asg, body)) (hl : args.length = ps.length)
    (k : WpR T asg (putPs fr ps args) H (RoundK T l body Q)) : WpY T l args H Q := by
  obtain ⟨n, x, fr2, H2, h1, rfl, pend0, fr0, key0, h2, m, x4, fr4, H4, h3, st, pend5, fr5, key5, h4, h5⟩ := k
  refine ⟨max n m + 1, _, _, ?_, h5⟩
  have e1 := evR_mono (evH_mono (T := T) (Nat.le_max_left n m)) (Nat.le_max_left n m) h1
  have e2 := evR_mono (evH_mono (T := T) (Nat.le_max_right n m)) (Nat.le_max_right n m) h3
  simp only [evH, ho, hk, if_pos hl, e1, h2, e2, h4]
theorem WpY.mono {l : Nat} {args : List Value} {H : CH} {Q Q' : Value → CH → Prop} (h : WpY T l args H Q) (hq : ∀ v H', Q v H' → Q' v H') : WpY T l args H Q' := by
  obtain ⟨n, v, H', h1, h2⟩ := h; exact ⟨n, v, H', h1, hq _ _ h2⟩
/-- What follows a loop over a function. -/
def RangeK (l : Nat) (fr : Fr) (Q : CExit → Fr → CH → Prop) : Value → CH → Prop := fun _ H => ∃ st pend fr' key, H.ob l = .loop st pend fr' key ∧ st ≠ .busy ∧ Q (jumpX pend) fr (H.set l (.loop .exhausted pend fr' key))
theorem wpR_rangeF {g : Operand} {key : Nat × Nat} {fr : Fr} {H : CH} {Q : CExit → Fr → CH → Prop} {f : FuncId} {fst caps : Array Value} (hg : evF fr g = .func (.func f) fst caps)
    (k : WpF T f (.func (.yield H.nx) #[] #[] :: caps.toList) (H.new (.loop .ready none fr key)) (RangeK H.nx fr Q)) : WpR T (.rangeF g key) fr H Q := by
  obtain ⟨n, v, H2, h1, st, pend, fr', key', h2, h3, h4⟩ := k
  refine ⟨n, _, _, _, ?_, h4⟩
  simp only [evR, hg]
  simp only [evFn] at h1
  rw [h1]
  simp only [h2, if_neg h3]
end Can
end Go.Proofs.Ytmpojphjongdcaa
