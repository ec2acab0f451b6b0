/- Canonical runs: regions that draw their order: the ground. Over any program. -/
import Derived.Test.YtmpojphjongdcaaCanN
namespace Go.Proofs.Ytmpojphjongdcaa
namespace Can
open Go Go.RowKit
set_option linter.unusedSimpArgs false
set_option linter.unusedVariables false
variable {P : Program} {B : Nat}

def isA : ROp → Bool
  | .a _ => true
  | _ => false
/-- What must come before. -/
inductive Anc (ops : Array Oper) : Nat → Nat → Prop where
  | edge {i : Nat} {o : Oper} {e : Edge} (ho : ops[i]? = some o) (he : e ∈ o.after.toList) (hb : Region.binds .any e = true) : Anc ops i e.on
  | trans {i j l : Nat} (h : Anc ops i j) (k : Anc ops j l) : Anc ops i l
def DC (ops : Array Oper) (listed : Array Bool) : Prop := ∀ i j, listed.getD i false = true → Anc ops i j → listed.getD j false = true
theorem ready_spec {ops : Array Oper} {listed : Array Bool} {i : Nat} (h : i ∈ Region.ready .any ops listed) : i < ops.size ∧ listed.getD i true = false ∧ ∀ o, ops[i]? = some o → ∀ e ∈ o.after.toList, Region.binds .any e = true → listed.getD e.on false = true := by
  unfold Region.ready at h
  obtain ⟨h1, h2⟩ := List.mem_filter.1 h
  have hi : i < ops.size := List.mem_range.1 h1
  simp only [Bool.and_eq_true, Bool.not_eq_true'] at h2
  refine ⟨hi, h2.1, fun o ho e he hb => ?_⟩
  have h3 := h2.2
  rw [ho] at h3
  simp only [Option.map_some, Option.getD_some] at h3
  have := Array.all_eq_true_iff_forall_mem.1 h3 e (by simpa using he)
  simpa [hb] using this
theorem anc_ready {ops : Array Oper} {listed : Array Bool} (hdc : DC ops listed) {i j : Nat} (ha : Anc ops i j) : (∀ o, ops[i]? = some o → ∀ e ∈ o.after.toList, Region.binds .any e = true → listed.getD e.on false = true) → listed.getD j false = true := by
  induction ha with
  | edge ho he hb => intro h; exact h _ ho _ he hb
  | trans h k ih1 ih2 => intro hr; exact hdc _ _ (ih1 hr) k
theorem getD_set {listed : Array Bool} {i j : Nat} : (listed.setIfInBounds i true).getD j false = true ↔ (j = i ∧ i < listed.size) ∨ listed.getD j false = true := by
  simp only [Array.getD_eq_getD_getElem?]
  by_cases h : i = j
  · subst h
    by_cases hi : i < listed.size
    · simp [hi]
    · simp [hi]
  · rw [Array.getElem?_setIfInBounds_ne h]
    constructor
    · exact .inr
    · rintro (⟨e, _⟩ | e)
      · exact absurd e.symm h
      · exact e
theorem dc_set {ops : Array Oper} {listed : Array Bool} (hdc : DC ops listed) {i : Nat} (hi : i ∈ Region.ready .any ops listed) : DC ops (listed.setIfInBounds i true) := by
  intro a b ha hab
  rw [getD_set] at ha ⊢
  rcases ha with ⟨rfl, _⟩ | ha
  · exact .inr (anc_ready hdc hab (ready_spec hi).2.2)
  · exact .inr (hdc _ _ ha hab)

/-- New blocks of others do not matter. -/
theorem Sim.push {β : Nat → Ent} {H : CH} {w w' : World} (h : Sim P B β H w) {o : Obj} (hw : w'.heap = w.heap.push o) : Sim P B β H w' := by
  have hold : ∀ b, b < w.heap.size → w'.heap[b]? = w.heap[b]? := fun b hb => by rw [hw, Array.getElem?_push, if_neg (by omega)]
  refine ⟨fun l => (h.ent l).mono (EntExt.refl β) fun b hb => hold b ?_, h.nx, h.inj, by rw [hw]; simp; exact Nat.le_succ_of_le h.base⟩
  exact at_lt h hb
/-- A block that is there gets its name. -/
theorem Sim.adopt {β : Nat → Ent} {H : CH} {w : World} (h : Sim P B β H w) {b sz : Nat} {cs : List Value} {cs' : Array Value} {e : TypeId} {k : Kd} {fr : Nat × Nat} (hb : w.heap[b]? = some (.cells cs' e fr)) (hB : B ≤ b) (hout : Out β b) (hk : k ≠ .ro) (he : (P.info? e).map (·.size) = some sz)
    (hl : cs.length ≤ cs'.size) (hx : k = .ex → cs.length = cs'.size) (hc : ∀ (i : Nat) (v : Value), cs[i]? = some v → ∃ v', cs'[i]? = some v' ∧ VR β v v') (hfr : ∀ i, i < cs'.size → (decide (fr.1 ≤ i) && decide (i < fr.2)) = false) :
    Sim P B (upd β H.nx (.live b sz cs'.size k)) (H.new (.cells cs e k)) w ∧ EntExt β (upd β H.nx (.live b sz cs'.size k)) ∧ ∀ b', b' ≠ b → Out β b' → Out (upd β H.nx (.live b sz cs'.size k)) b' := by
  have hun := h.unborn
  have hext : EntExt β (upd β H.nx (.live b sz cs'.size k)) := fun l => by
    by_cases hl : l = H.nx
    · subst hl; exact .inr (.inl hun)
    · exact .inl (upd_other hl)
  refine ⟨⟨fun l => ?_, fun l hl => ?_, fun l l' b' ho ho' => ?_, h.base⟩, hext, fun b' hne hout' l ho => ?_⟩
  · by_cases hl' : l = H.nx
    · subst hl'
      simp only [upd_same, CH.new, if_true]
      exact ⟨rfl, cs', e, fr, hb, rfl, hl, fun i v hv => let ⟨v', a, b⟩ := hc i v hv; ⟨v', a, b.mono hext⟩, fun _ => he, fun _ => ⟨rfl, hB, hfr⟩, fun e => absurd e hk, hx⟩
    · simp only [upd_other hl', CH.new, if_neg hl']
      exact (h.ent l).mono hext fun _ _ => rfl
  · have : l ≠ H.nx := by simp [CH.new] at hl; omega
    simp only [CH.new, if_neg this]
    exact h.nx l (by simp [CH.new] at hl; omega)
  · by_cases h1 : l = H.nx <;> by_cases h2 : l' = H.nx
    · rw [h1, h2]
    · subst h1
      rw [upd_same] at ho
      rw [upd_other h2] at ho'
      rw [← ho.2] at ho'
      exact absurd ho' (hout l')
    · subst h2
      rw [upd_same] at ho'
      rw [upd_other h1] at ho
      rw [← ho'.2] at ho
      exact absurd ho (hout l)
    · rw [upd_other h1] at ho
      rw [upd_other h2] at ho'
      exact h.inj _ _ b' ho ho'
  · by_cases h1 : l = H.nx
    · subst h1
      rw [upd_same] at ho
      exact hne ho.2.symm
    · rw [upd_other h1] at ho
      exact hout' l ho
/-- Operations that leave the memory alone. -/
theorem runD_quiet {h : Hd} : ∀ {R : List Item} {fr fr1 : Fr} {H H1 : CH} {l : List CH}, (∀ x ∈ R, isW x.op = false ∧ isA x.op = false) → runD h R fr H = some (fr1, H1, l) → H1 = H ∧ l = []
  | [], fr, fr1, H, H1, l, _, hr => by simp only [runD, Option.some.injEq, Prod.mk.injEq] at hr; obtain ⟨rfl, rfl, rfl⟩ := hr; exact ⟨rfl, rfl⟩
  | x :: R, fr, fr1, H, H1, l, hx, hr => by
    simp only [runD] at hr
    cases hs : stepI h x fr H with
    | none => rw [hs] at hr; cases hr
    | some q =>
      obtain ⟨f, K⟩ := q
      have hq := hx x (List.mem_cons_self ..)
      have hK : K = H := by
        simp only [stepI] at hs
        split at hs
        · cases hop : x.op with
          | p y => rw [hop] at hs; simp only [rop] at hs; cases hp : pop (evF fr) y <;> rw [hp] at hs <;> simp at hs; exact hs.2.symm
          | l y => rw [hop] at hs; simp only [rop] at hs; cases hp : lop H (evF fr) y <;> rw [hp] at hs <;> simp at hs; exact hs.2.symm
          | a y => rw [hop] at hq; cases hq.2
          | w y => rw [hop] at hq; cases hq.1
          | call f a => rw [hop] at hq; cases hq.1
          | callv f a => rw [hop] at hq; cases hq.1
        · cases hs; rfl
        · cases hs
      rw [hs] at hr
      simp only [hq.1, Bool.false_eq_true, if_false] at hr
      cases hd : runD h R f K with
      | none => rw [hd] at hr; cases hr
      | some z =>
        obtain ⟨a, b, c⟩ := z
        rw [hd] at hr
        simp only [Option.map_some, Option.some.injEq, Prod.mk.injEq] at hr
        obtain ⟨rfl, rfl, rfl⟩ := hr
        obtain ⟨h1, h2⟩ := runD_quiet (fun y hy => hx y (List.mem_cons_of_mem _ hy)) hd
        exact ⟨h1.trans hK, h2⟩
theorem runD_fill {h : Hd} {K : CH} : ∀ {R : List Item} {fr fr1 : Fr} {H H1 : CH} {l : List CH}, Fill H K → (∀ x ∈ R, isW x.op = false ∧ isA x.op = false) → runD h R fr H = some (fr1, H1, l) → runD h R fr K = some (fr1, K, [])
  | [], fr, fr1, H, H1, l, _, _, hr => by simp only [runD, Option.some.injEq, Prod.mk.injEq] at hr; obtain ⟨rfl, rfl, rfl⟩ := hr; rfl
  | x :: R, fr, fr1, H, H1, l, hf, hx, hr => by
    simp only [runD] at hr ⊢
    cases hs : stepI h x fr H with
    | none => rw [hs] at hr; cases hr
    | some q =>
      obtain ⟨f, H2⟩ := q
      have hq := hx x (List.mem_cons_self ..)
      have hK : stepI h x fr K = some (f, K) ∧ H2 = H := by
        simp only [stepI] at hs ⊢
        split at hs
        · cases hop : x.op with
          | p y => rw [hop] at hs; simp only [rop] at hs ⊢; cases hp : pop (evF fr) y <;> rw [hp] at hs <;> simp at hs; simp [hs.1, hs.2]
          | l y => rw [hop] at hs; simp only [rop] at hs ⊢; cases hp : lop H (evF fr) y <;> rw [hp] at hs <;> simp at hs; rw [lop_fill hf hp]; simp [hs.1, hs.2]
          | a y => rw [hop] at hq; cases hq.2
          | w y => rw [hop] at hq; cases hq.1
          | call f a => rw [hop] at hq; cases hq.1
          | callv f a => rw [hop] at hq; cases hq.1
        · cases hs; exact ⟨rfl, rfl⟩
        · cases hs
      obtain ⟨hK1, rfl⟩ := hK
      rw [hs] at hr
      rw [hK1]
      simp only [hq.1, Bool.false_eq_true, if_false] at hr ⊢
      cases hd : runD h R f H2 with
      | none => rw [hd] at hr; cases hr
      | some z =>
        obtain ⟨a, b, c⟩ := z
        rw [hd] at hr
        simp only [Option.map_some, Option.some.injEq, Prod.mk.injEq] at hr
        obtain ⟨rfl, rfl, rfl⟩ := hr
        rw [runD_fill hf (fun y hy => hx y (List.mem_cons_of_mem _ hy)) hd]
        rfl
/-- An operation that leaves the memory alone, done ahead of others. -/
theorem runD_pull {h : Hd} {R1 R2 : List Item} {r : Item} {fr fr2 : Fr} {H H2 : CH} {l : List CH} (hr : runD h (R1 ++ r :: R2) fr H = some (fr2, H2, l)) (hrq : isW r.op = false ∧ isA r.op = false)
    (hx : ∀ x ∈ R1, ∀ t, r.dst = some t → t ∉ x.uses ∧ x.dst ≠ some t) :
    ∃ v, (∃ fr1 H1 l1, runD h R1 fr H = some (fr1, H1, l1) ∧ stepI h r fr1 H1 = some (putF fr1 r.dst v, H1)) ∧ runD h (R1 ++ R2) (putF fr r.dst v) H = some (fr2, H2, l) := by
  obtain ⟨fr1, H1, l1, l2, h1, h2, rfl⟩ := runD_app hr
  have h2' : runD h ([r] ++ R2) fr1 H1 = some (fr2, H2, l2) := h2
  obtain ⟨fr3, H3, l3, l4, h3, h4, rfl⟩ := runD_app h2'
  obtain ⟨q1, q2⟩ := runD_quiet (R := [r]) (fun x hx => by simp at hx; subst hx; exact hrq) h3
  subst q1 q2
  simp only [runD] at h3
  cases hs : stepI h r fr1 H3 with
  | none => rw [hs] at h3; cases h3
  | some q =>
    obtain ⟨f, K⟩ := q
    rw [hs] at h3
    simp only [Option.map_some, Option.some.injEq, Prod.mk.injEq] at h3
    obtain ⟨rfl, rfl, _⟩ := h3
    obtain ⟨v, rfl, _⟩ := stepI_agree (fr2 := fr1) (fun t _ => rfl) hs
    refine ⟨v, ⟨fr1, K, l1, h1, hs⟩, ?_⟩
    have := runD_put (v := v) hx h1
    simpa using runD_join this h4
end Can
end Go.Proofs.Ytmpojphjongdcaa
