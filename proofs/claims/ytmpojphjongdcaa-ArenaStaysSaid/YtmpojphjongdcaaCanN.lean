/- Canonical runs: what an operation looks at; runs side by side. -/
import Derived.Test.YtmpojphjongdcaaCanL
namespace Go.Proofs.Ytmpojphjongdcaa
namespace Can
open Go Go.RowKit
set_option linter.unusedSimpArgs false
set_option linter.unusedVariables false
variable {P : Program} {B : Nat}

def POp.opnds : POp → List Operand
  | .mov x | .un _ x | .conv _ x | .cstr x | .off x _ | .ext x _ | .len x | .lens x | .nck x | .fld x _ _ => [x]
  | .pick c a b => [c, a, b]
  | .bin _ x y | .eqb _ x y | .eqp _ x y | .eqs _ x y | .idx x y _ | .idxp x y _ _ | .sidx x y | .idxv x y _ _ _ | .mx _ x y => [x, y]
  | .sstr x lo hi => x :: (lo.toList ++ hi.toList)
  | .fn _ caps => caps
  | .bld _ ps => ps.map (·.2.2)
def LOp.opnds : LOp → List Operand
  | .ld x | .lda _ x | .b2s x => [x]
  | .slc _ _ x lo hi mx => x :: (lo.toList ++ (hi.toList ++ mx.toList))
def AOp.opnds : AOp → List Operand
  | .box _ x => [x]
  | .new _ _ => []
  | .bsl _ _ _ _ ps => ps.map (·.2)
  | .mks _ _ _ _ l c => [l, c]
def WOp.opnds : WOp → List Operand
  | .st _ x v => [x, v]
  | .app _ _ _ s x => [s, x]
  | .cpy _ d s => [d, s]
def ROp.opnds : ROp → List Operand
  | .p x => x.opnds
  | .l x => x.opnds
  | .a x => x.opnds
  | .w x => x.opnds
  | .call _ args => args
  | .callv g args => g :: args
theorem bnd_congr {ev ev' : Operand → Value} {d d' : Nat} {o : Option Operand} (h : ∀ x ∈ o.toList, ev x = ev' x) (hd : d = d') : bnd ev d o = bnd ev' d' o := by
  subst hd
  cases o with
  | none => rfl
  | some x => simp only [bnd, h x (by simp)]
theorem pop_congr {ev ev' : Operand → Value} {p : POp} (h : ∀ x ∈ p.opnds, ev x = ev' x) : pop ev p = pop ev' p := by
  cases p with
  | pick c a b => simp only [pop, h c (by simp [POp.opnds]), h a (by simp [POp.opnds]), h b (by simp [POp.opnds])]
  | sstr x lo hi =>
    have hx := h x (by simp [POp.opnds])
    simp only [pop, hx]
    rw [bnd_congr (ev := ev) (ev' := ev') (o := lo) (fun y hy => h y (by simp only [POp.opnds, List.mem_cons, List.mem_append]; exact .inr (.inl hy))) rfl, bnd_congr (ev := ev) (ev' := ev') (o := hi) (fun y hy => h y (by simp only [POp.opnds, List.mem_cons, List.mem_append]; exact .inr (.inr hy))) rfl]
  | fn f caps =>
    have : caps.map ev = caps.map ev' := List.map_congr_left fun x hx => h x hx
    simp only [pop, this]
  | bld z ps =>
    simp only [pop]
    have : ps.map (fun (o, s, x) => (o, s, ev x)) = ps.map (fun (o, s, x) => (o, s, ev' x)) := List.map_congr_left fun q hq => by
      obtain ⟨a, b, c⟩ := q
      simp only [h c (List.mem_map.2 ⟨_, hq, rfl⟩)]
    rw [this]
  | mov x => simp only [pop, h x (by simp [POp.opnds])]
  | un op x => simp only [pop, h x (by simp [POp.opnds])]
  | conv k x => simp only [pop, h x (by simp [POp.opnds])]
  | cstr x => simp only [pop, h x (by simp [POp.opnds])]
  | off x d => simp only [pop, h x (by simp [POp.opnds])]
  | ext x d => simp only [pop, h x (by simp [POp.opnds])]
  | len x => simp only [pop, h x (by simp [POp.opnds])]
  | lens x => simp only [pop, h x (by simp [POp.opnds])]
  | nck x => simp only [pop, h x (by simp [POp.opnds])]
  | bin op x y => simp only [pop, h x (by simp [POp.opnds]), h y (by simp [POp.opnds])]
  | eqb n x y => simp only [pop, h x (by simp [POp.opnds]), h y (by simp [POp.opnds])]
  | eqp n x y => simp only [pop, h x (by simp [POp.opnds]), h y (by simp [POp.opnds])]
  | eqs n x y => simp only [pop, h x (by simp [POp.opnds]), h y (by simp [POp.opnds])]
  | idx x y s => simp only [pop, h x (by simp [POp.opnds]), h y (by simp [POp.opnds])]
  | idxp x y n s => simp only [pop, h x (by simp [POp.opnds]), h y (by simp [POp.opnds])]
  | sidx x y => simp only [pop, h x (by simp [POp.opnds]), h y (by simp [POp.opnds])]
  | fld x d n => simp only [pop, h x (by simp [POp.opnds])]
  | idxv x y n s g => simp only [pop, h x (by simp [POp.opnds]), h y (by simp [POp.opnds])]
  | mx b x y => simp only [pop, h x (by simp [POp.opnds]), h y (by simp [POp.opnds])]
theorem lop_congr {ev ev' : Operand → Value} {H : CH} {p : LOp} (h : ∀ x ∈ p.opnds, ev x = ev' x) : lop H ev p = lop H ev' p := by
  cases p with
  | ld x => simp only [lop, h x (by simp [LOp.opnds])]
  | lda n x => simp only [lop, h x (by simp [LOp.opnds])]
  | b2s x => simp only [lop, h x (by simp [LOp.opnds])]
  | slc e sz x lo hi mx =>
    have hx := h x (by simp [LOp.opnds])
    simp only [lop, hx]
    rw [bnd_congr (ev := ev) (ev' := ev') (o := lo) (fun y hy => h y (by simp only [LOp.opnds, List.mem_cons, List.mem_append]; exact .inr (.inl hy))) rfl,
      bnd_congr (ev := ev) (ev' := ev') (o := hi) (fun y hy => h y (by simp only [LOp.opnds, List.mem_cons, List.mem_append]; exact .inr (.inr (.inl hy)))) rfl,
      bnd_congr (ev := ev) (ev' := ev') (o := mx) (fun y hy => h y (by simp only [LOp.opnds, List.mem_cons, List.mem_append]; exact .inr (.inr (.inr hy)))) rfl]
theorem aop_congr {ev ev' : Operand → Value} {p : AOp} (h : ∀ x ∈ p.opnds, ev x = ev' x) : aop ev p = aop ev' p := by
  cases p with
  | box e x => simp only [aop, h x (by simp [AOp.opnds])]
  | new e z => rfl
  | bsl e sz n z ps =>
    simp only [aop]
    have : ps.map (fun (i, x) => (i * sz, sz, ev x)) = ps.map (fun (i, x) => (i * sz, sz, ev' x)) := List.map_congr_left fun q hq => by
      obtain ⟨a, c⟩ := q
      simp only [h c (List.mem_map.2 ⟨_, hq, rfl⟩)]
    rw [this]
  | mks e sz b z l c => simp only [aop, h l (by simp [AOp.opnds]), h c (by simp [AOp.opnds])]
theorem wop_congr {ev ev' : Operand → Value} {H : CH} {p : WOp} (h : ∀ x ∈ p.opnds, ev x = ev' x) : wop H ev p = wop H ev' p := by
  cases p with
  | st n x v => simp only [wop, h x (by simp [WOp.opnds]), h v (by simp [WOp.opnds])]
  | app e sz b s x => simp only [wop, h s (by simp [WOp.opnds]), h x (by simp [WOp.opnds])]
  | cpy sz d s => simp only [wop, h d (by simp [WOp.opnds]), h s (by simp [WOp.opnds])]
theorem rop_congr {h : Hd} {fr fr' : Fr} {H : CH} {o : ROp} (he : ∀ x ∈ o.opnds, evF fr x = evF fr' x) : rop h fr H o = rop h fr' H o := by
  cases o with
  | p x => simp only [rop, pop_congr (p := x) he]
  | l x => simp only [rop, lop_congr (p := x) he]
  | a x => simp only [rop, aop_congr (p := x) he]
  | w x => simp only [rop]; exact wop_congr he
  | call f args =>
    have : args.map (evF fr) = args.map (evF fr') := List.map_congr_left fun x hx => he x hx
    simp only [rop, this]
  | callv g args =>
    have hg := he g (by simp [ROp.opnds])
    have ha : args.map (evF fr) = args.map (evF fr') := List.map_congr_left fun x hx => he x (by simp [ROp.opnds, hx])
    simp only [rop, hg, ha]
def slotsOf : List Operand → List Nat := fun l => l.filterMap fun | .tmp t => some t | _ => none
/-- The slots that an operation looks at. -/
def Item.uses (it : Item) : List Nat := slotsOf it.op.opnds ++ (match it.guard with | some (s, _) => [s] | none => [])
theorem evF_agree {fr fr' : Fr} {l : List Operand} (h : ∀ t ∈ slotsOf l, fr t = fr' t) : ∀ x ∈ l, evF fr x = evF fr' x := by
  intro x hx
  cases x with
  | tmp t => exact h t (List.mem_filterMap.2 ⟨.tmp t, hx, rfl⟩)
  | _ => rfl
theorem wanted_agree {fr fr' : Fr} {it : Item} (h : ∀ t ∈ it.uses, fr t = fr' t) : wantedF fr it.guard = wantedF fr' it.guard := by
  cases hg : it.guard with
  | none => rfl
  | some q =>
    obtain ⟨s, b⟩ := q
    simp only [wantedF, h s (by simp [Item.uses, hg])]
/-- A step, on a frame that agrees where it looks. -/
theorem stepI_agree {h : Hd} {it : Item} {fr fr2 fr1 : Fr} {H H1 : CH} (ha : ∀ t ∈ it.uses, fr t = fr2 t) (hs : stepI h it fr H = some (fr1, H1)) : ∃ v, fr1 = putF fr it.dst v ∧ stepI h it fr2 H = some (putF fr2 it.dst v, H1) := by
  have hw := wanted_agree ha
  have hr : rop h fr H it.op = rop h fr2 H it.op := rop_congr (evF_agree fun t ht => ha t (by simp [Item.uses, ht]))
  simp only [stepI] at hs ⊢
  rw [← hw, ← hr]
  split at hs
  · cases hq : rop h fr H it.op with
    | none => rw [hq] at hs; cases hs
    | some q => rw [hq] at hs; cases hs; exact ⟨q.1, rfl, rfl⟩
  · cases hs; exact ⟨skipV, rfl, rfl⟩
  · cases hs
theorem putF_comm {fr : Fr} {a b : Option Nat} {u v : Value} (h : ∀ x, a = some x → b ≠ some x) : putF (putF fr a u) b v = putF (putF fr b v) a u := by
  cases a with
  | none => rfl
  | some x =>
    cases b with
    | none => rfl
    | some y =>
      have hne : x ≠ y := fun e => h x rfl (by rw [e])
      funext t
      simp only [putF]
      by_cases e1 : t = y
      · subst e1
        have e2 : ¬ t = x := fun g => hne g.symm
        simp [e2]
      · by_cases e2 : t = x
        · subst e2; simp [e1]
        · simp [e1, e2]
theorem putF_other {fr : Fr} {a : Option Nat} {v : Value} {t : Nat} (h : a ≠ some t) : putF fr a v t = fr t := by
  cases a with
  | none => rfl
  | some x => simp only [putF]; rw [if_neg (fun e => h (by rw [e]))]
/-- Operations that neither look at a slot nor fill it run alike whatever lies there. -/
theorem runD_put {h : Hd} {d : Option Nat} {v : Value} : ∀ {R : List Item} {fr fr1 : Fr} {H H1 : CH} {l : List CH}, (∀ x ∈ R, ∀ t, d = some t → t ∉ x.uses ∧ x.dst ≠ some t) → runD h R fr H = some (fr1, H1, l) → runD h R (putF fr d v) H = some (putF fr1 d v, H1, l)
  | [], fr, fr1, H, H1, l, _, hr => by simp only [runD, Option.some.injEq, Prod.mk.injEq] at hr; obtain ⟨rfl, rfl, rfl⟩ := hr; rfl
  | x :: R, fr, fr1, H, H1, l, hx, hr => by
    simp only [runD] at hr ⊢
    cases hs : stepI h x fr H with
    | none => rw [hs] at hr; cases hr
    | some q =>
      obtain ⟨f, K⟩ := q
      rw [hs] at hr
      have hxx := hx x (List.mem_cons_self ..)
      obtain ⟨u, rfl, h2⟩ := stepI_agree (fr2 := putF fr d v) (fun t ht => by
        rw [putF_other]; intro e; exact (hxx t e).1 ht) hs
      rw [h2]
      simp only at hr ⊢
      cases hd : runD h R (putF fr x.dst u) K with
      | none => rw [hd] at hr; cases hr
      | some z =>
        obtain ⟨a, b, c⟩ := z
        rw [hd] at hr
        simp only [Option.map_some, Option.some.injEq, Prod.mk.injEq] at hr
        obtain ⟨rfl, rfl, rfl⟩ := hr
        have := runD_put (v := v) (fun y hy => hx y (List.mem_cons_of_mem _ hy)) hd
        rw [putF_comm (fun t e g => (hxx t g).2 e)] at this
        rw [this]
        rfl
/-- A slot that none fills stays. -/
theorem runD_keep {h : Hd} {t : Nat} : ∀ {R : List Item} {fr fr1 : Fr} {H H1 : CH} {l : List CH}, (∀ x ∈ R, x.dst ≠ some t) → runD h R fr H = some (fr1, H1, l) → fr1 t = fr t
  | [], fr, fr1, H, H1, l, _, hr => by simp only [runD, Option.some.injEq, Prod.mk.injEq] at hr; obtain ⟨rfl, rfl, rfl⟩ := hr; rfl
  | x :: R, fr, fr1, H, H1, l, hx, hr => by
    simp only [runD] at hr
    cases hs : stepI h x fr H with
    | none => rw [hs] at hr; cases hr
    | some q =>
      obtain ⟨f, K⟩ := q
      rw [hs] at hr
      simp only at hr
      obtain ⟨u, rfl, _⟩ := stepI_agree (fr2 := fr) (fun t _ => rfl) hs
      cases hd : runD h R (putF fr x.dst u) K with
      | none => rw [hd] at hr; cases hr
      | some z =>
        obtain ⟨a, b, c⟩ := z
        rw [hd] at hr
        simp only [Option.map_some, Option.some.injEq, Prod.mk.injEq] at hr
        obtain ⟨rfl, rfl, rfl⟩ := hr
        rw [runD_keep (fun y hy => hx y (List.mem_cons_of_mem _ hy)) hd, putF_other (hx x (List.mem_cons_self ..))]
theorem runD_app {h : Hd} : ∀ {R S : List Item} {fr fr2 : Fr} {H H2 : CH} {l : List CH}, runD h (R ++ S) fr H = some (fr2, H2, l) → ∃ fr1 H1 l1 l2, runD h R fr H = some (fr1, H1, l1) ∧ runD h S fr1 H1 = some (fr2, H2, l2) ∧ l = l1 ++ l2
  | [], S, fr, fr2, H, H2, l, hr => ⟨fr, H, [], l, rfl, hr, rfl⟩
  | x :: R, S, fr, fr2, H, H2, l, hr => by
    simp only [List.cons_append, runD] at hr
    cases hs : stepI h x fr H with
    | none => rw [hs] at hr; cases hr
    | some q =>
      rw [hs] at hr
      simp only at hr
      cases hd : runD h (R ++ S) q.1 q.2 with
      | none => rw [hd] at hr; cases hr
      | some z =>
        obtain ⟨a, b, c⟩ := z
        rw [hd] at hr
        simp only [Option.map_some, Option.some.injEq, Prod.mk.injEq] at hr
        obtain ⟨rfl, rfl, rfl⟩ := hr
        obtain ⟨fr1, H1, l1, l2, h1, h2, rfl⟩ := runD_app hd
        refine ⟨fr1, H1, if isW x.op then q.2 :: l1 else l1, l2, ?_, h2, by split <;> rfl⟩
        simp only [runD, hs, h1]; rfl
theorem runD_join {h : Hd} : ∀ {R S : List Item} {fr fr1 fr2 : Fr} {H H1 H2 : CH} {l1 l2 : List CH}, runD h R fr H = some (fr1, H1, l1) → runD h S fr1 H1 = some (fr2, H2, l2) → runD h (R ++ S) fr H = some (fr2, H2, l1 ++ l2)
  | [], S, fr, fr1, fr2, H, H1, H2, l1, l2, h1, h2 => by simp only [runD, Option.some.injEq, Prod.mk.injEq] at h1; obtain ⟨rfl, rfl, rfl⟩ := h1; exact h2
  | x :: R, S, fr, fr1, fr2, H, H1, H2, l1, l2, h1, h2 => by
    simp only [List.cons_append, runD] at h1 ⊢
    cases hs : stepI h x fr H with
    | none => rw [hs] at h1; cases h1
    | some q =>
      rw [hs] at h1
      simp only at h1 ⊢
      cases hd : runD h R q.1 q.2 with
      | none => rw [hd] at h1; cases h1
      | some z =>
        obtain ⟨a, b, c⟩ := z
        rw [hd] at h1
        simp only [Option.map_some, Option.some.injEq, Prod.mk.injEq] at h1
        obtain ⟨rfl, rfl, rfl⟩ := h1
        rw [runD_join hd h2]
        simp only [Option.map_some]
        split <;> rfl
/-- Memories of which one holds all that the other holds. -/
def Fill (H K : CH) : Prop := ∀ l, (∃ cs e k, H.ob l = .cells cs e k) → K.ob l = H.ob l
theorem Fill.refl (H : CH) : Fill H H := fun _ _ => rfl
theorem lop_fill {H K : CH} (hf : Fill H K) {ev : Operand → Value} {x : LOp} {v : Value} (h : lop H ev x = some v) : lop K ev x = some v := by
  cases x with
  | ld x =>
    simp only [lop] at h ⊢
    split at h
    · split at h
      · rename_i hob; rw [hf _ ⟨_, _, _, hob⟩, hob]; exact h
      · cases h
    · cases h
  | lda n x =>
    simp only [lop] at h ⊢
    split at h
    · split at h
      · rename_i hob; rw [hf _ ⟨_, _, _, hob⟩, hob]; exact h
      · cases h
    · cases h
  | b2s x =>
    simp only [lop] at h ⊢
    split at h
    · exact h
    · split at h
      · rename_i hob; rw [hf _ ⟨_, _, _, hob⟩, hob]; exact h
      · cases h
    · exact h
    · cases h
  | slc e sz x lo hi mx =>
    simp only [lop] at h ⊢
    split at h
    · rename_i l hh m h1 h2 h3
      split at h
      · rename_i hok
        have : okSl K e (ev x) = true := by
          simp only [Bool.and_eq_true] at hok
          have := hok.1
          unfold okSl at this ⊢
          split at this
          · split at this
            · rename_i hob; rw [hf _ ⟨_, _, _, hob⟩, hob]
            · rename_i k hk hob; rw [hf _ ⟨_, _, _, hob⟩, hob]; cases k <;> first | rfl | exact this
            · cases this
          · rfl
        simp only [Bool.and_eq_true] at hok
        simp only [this, hok.2, Bool.and_self, if_true]
        exact h
      · cases h
    · cases h
end Can
end Go.Proofs.Ytmpojphjongdcaa
