/- Canonical runs: rows of cells read, written, grown, given up. Over any program. -/
import Derived.Test.YtmpojphjongdcaaCanA
import Derived.Laws.Append
import Derived.Laws.Entries
namespace Go.Proofs.Ytmpojphjongdcaa
namespace Can
open Go Go.RowKit
set_option linter.unusedSimpArgs false
set_option linter.unusedVariables false
variable {P : Program} {B : Nat}

theorem Sim.drew {β : Nat → Ent} {H : CH} {w : World} (h : Sim P B β H w) : Sim P B β H w.drew ∧ Evo β w β w.drew :=
  ⟨⟨fun l => (h.ent l).mono (EntExt.refl β) fun b _ => rfl, h.nx, h.inj, h.base⟩, ⟨rfl, rfl, rfl, Nat.le_refl _, fun _ _ ho => ⟨rfl, ho⟩, EntExt.refl β⟩⟩
/-- A name given up: whoever still holds it may not use it. -/
theorem Sim.kill {β : Nat → Ent} {H : CH} {w : World} (h : Sim P B β H w) {l b sz n : Nat} {k : Kd} (hb : β l = .live b sz n k) :
    Sim P B (upd β l .dead) (H.set l .dead) w ∧ Evo β w (upd β l .dead) w := by
  have hext : EntExt β (upd β l .dead) := fun l' => by
    by_cases e : l' = l
    · subst e; exact .inr (.inr ⟨b, sz, n, k, hb, upd_same⟩)
    · exact .inl (upd_other e)
  refine ⟨⟨fun l' => ?_, fun l' hl => ?_, fun l1 l2 b' h1 h2 => ?_, h.base⟩, ⟨rfl, rfl, rfl, Nat.le_refl _, fun b' hb' ho => ⟨rfl, fun l' h1 => ?_⟩, hext⟩⟩
  · by_cases e : l' = l
    · subst e; simp only [upd_same, CH.set, if_true]; trivial
    · simp only [upd_other e, CH.set, if_neg e]
      exact (h.ent l').mono hext fun _ _ => rfl
  · have : l' ≠ l := fun e => by
      subst e
      obtain ⟨cs, e, ho, _⟩ := h.live hb
      rw [h.nx _ hl] at ho; cases ho
    simp only [CH.set, if_neg this]
    exact h.nx _ hl
  · have e1 : l1 ≠ l := fun e => by subst e; rw [upd_same] at h1; exact h1
    have e2 : l2 ≠ l := fun e => by subst e; rw [upd_same] at h2; exact h2
    rw [upd_other e1] at h1
    rw [upd_other e2] at h2
    exact h.inj _ _ b' h1 h2
  · have e1 : l' ≠ l := fun e => by subst e; rw [upd_same] at h1; exact h1
    rw [upd_other e1] at h1
    exact ho l' h1
/-- Room behind a row is a row of cells of which nothing is known. -/
theorem Sim.pad {β : Nat → Ent} {H : CH} {w : World} (h : Sim P B β H w) {l b sz n : Nat} {cs : List Value} {e : TypeId} {k : Kd} (hb : β l = .live b sz n k) (ho : H.ob l = .cells cs e k) (m : Nat) (hm : cs.length + m ≤ n) :
    Sim P B β (H.set l (.cells (cs ++ List.replicate m undef) e k)) w := by
  obtain ⟨cs0, e0, ho0, cs', e', fr, h1, h2, h3, h4, h5, h6, h7, h8⟩ := h.live hb
  rw [ho] at ho0
  cases ho0
  refine ⟨fun l' => ?_, fun l' hl => ?_, h.inj, h.base⟩
  · by_cases hl : l' = l
    · subst hl
      simp only [CH.set, if_true, hb]
      refine ⟨rfl, cs', e', fr, h1, h2, by simp; omega, fun i v hv => ?_, h5, h6, h7, fun hk => by have := h8 hk; simp; omega⟩
      by_cases hi : i < cs.length
      · rw [List.getElem?_append_left hi] at hv
        exact h4 i v hv
      · rw [List.getElem?_append_right (by omega)] at hv
        obtain ⟨hi', hv⟩ := List.getElem?_eq_some_iff.1 hv
        simp at hi'
        have : v = undef := by rw [← hv]; simp
        subst this
        exact ⟨cs'[i]'(by omega), by simp, .undef _⟩
    · simp only [CH.set, if_neg hl]
      exact h.ent l'
  · have : l' ≠ l := fun e => by subst e; rw [h.nx _ hl] at ho; cases ho
    simp only [CH.set, if_neg this]
    exact h.nx _ hl
/-- A row under a new name, cut short or not. -/
theorem Sim.rename {β : Nat → Ent} {H : CH} {w : World} (h : Sim P B β H w) {l b sz n : Nat} {cs : List Value} {e : TypeId} {k : Kd} (hb : β l = .live b sz n k) (ho : H.ob l = .cells cs e k) (hk : k ≠ .ro) (j : Nat) :
    Sim P B (upd (upd β l .dead) H.nx (.live b sz n .gr)) ((H.set l .dead).new (.cells (cs.take j) e .gr)) w ∧ Evo β w (upd (upd β l .dead) H.nx (.live b sz n .gr)) w := by
  obtain ⟨h', hevo⟩ := h.kill hb
  obtain ⟨cs0, e0, ho0, cs', e', fr, h1, h2, h3, h4, h5, h6, h7, h8⟩ := h.live hb
  rw [ho] at ho0
  cases ho0
  have hun := h'.unborn
  have hnx : (H.set l .dead).nx = H.nx := rfl
  rw [hnx] at hun
  have hne : H.nx ≠ l := fun e => by rw [← e, h.nx _ (Nat.le_refl _)] at ho; cases ho
  have hext : EntExt (upd β l .dead) (upd (upd β l .dead) H.nx (.live b sz n .gr)) := fun l' => by
    by_cases e : l' = H.nx
    · subst e; exact .inr (.inl hun)
    · exact .inl (upd_other e)
  have howns : ∀ l', (upd β l .dead l').owns b → False := fun l' hl' => by
    have e1 : l' ≠ l := fun e => by subst e; rw [upd_same] at hl'; exact hl'
    rw [upd_other e1] at hl'
    exact e1 (h.inj _ _ b hl' (by rw [hb]; exact ⟨hk, rfl⟩))
  refine ⟨⟨fun l' => ?_, fun l' hl => ?_, fun l1 l2 b' g1 g2 => ?_, h.base⟩, ⟨rfl, rfl, rfl, Nat.le_refl _, fun b' hb' hout => ⟨rfl, fun l' h1 => ?_⟩, hevo.ext.trans hext⟩⟩
  · by_cases e1 : l' = H.nx
    · subst e1
      simp only [upd_same, CH.new, hnx, if_true]
      exact ⟨rfl, cs', e, fr, by rw [h1, (h6 hk).1], h2, by simp; omega, (fun i v hv => by
        rw [List.getElem?_take] at hv
        split at hv
        · obtain ⟨v', a, b⟩ := h4 i v hv
          exact ⟨v', a, (b.mono hevo.ext).mono hext⟩
        · cases hv), fun _ => h5 hk, fun _ => ⟨rfl, (h6 hk).2⟩, fun e => (by cases e), fun e => (by cases e)⟩
    · simp only [upd_other e1, CH.new, hnx, if_neg e1]
      exact (h'.ent l').mono hext fun _ _ => rfl
  · have e1 : l' ≠ H.nx := by simp [CH.new, hnx] at hl; omega
    simp only [CH.new, hnx, if_neg e1]
    exact h'.nx l' (by simp [CH.new, hnx] at hl ⊢; omega)
  · by_cases e1 : l1 = H.nx <;> by_cases e2 : l2 = H.nx
    · rw [e1, e2]
    · subst e1
      rw [upd_same] at g1
      rw [upd_other e2] at g2
      rw [← g1.2] at g2
      exact (howns _ g2).elim
    · subst e2
      rw [upd_same] at g2
      rw [upd_other e1] at g1
      rw [← g2.2] at g1
      exact (howns _ g1).elim
    · rw [upd_other e1] at g1
      rw [upd_other e2] at g2
      exact h'.inj _ _ b' g1 g2
  · by_cases e1 : l' = H.nx
    · subst e1
      rw [upd_same] at h1
      exact hout l (by rw [hb]; exact ⟨hk, h1.2⟩)
    · rw [upd_other e1] at h1
      exact (hevo.keep b' hb' hout).2 l' h1

def setCells (cs : List Value) (o : Nat) (us : List Value) : List Value := cs.take o ++ us ++ cs.drop (o + us.length)
theorem setCells_length {cs us : List Value} {o : Nat} (h : o + us.length ≤ cs.length) : (setCells cs o us).length = cs.length := by
  simp [setCells]; omega
theorem setCells_cons {cs us : List Value} {o : Nat} {u : Value} (h : o + (us.length + 1) ≤ cs.length) : setCells (cs.set o u) (o + 1) us = setCells cs o (u :: us) := by
  unfold setCells
  rw [List.take_set, List.drop_set_of_lt (by omega)]
  have : cs.take (o + 1) = cs.take o ++ [cs[o]'(by omega)] := by rw [List.take_succ_eq_append_getElem (by omega)]
  rw [this, List.set_append_right _ _ (by simp; omega), List.length_take]
  simp [show min o cs.length = o by omega]
  congr 1; omega
theorem CH.set_set (H : CH) (l : Nat) (a b : CObj) : (H.set l a).set l b = H.set l b := by
  unfold CH.set; congr 1; funext k; by_cases e : k = l <;> simp [e]
theorem CH.set_self {H : CH} {l : Nat} {a : CObj} (h : H.ob l = a) : H.set l a = H := by
  unfold CH.set
  cases H
  congr 1; funext k
  by_cases e : k = l
  · subst e; simp; exact h.symm
  · simp [e]
theorem Sim.stores : ∀ {us us' : List Value} {β : Nat → Ent} {H : CH} {w : World} (h : Sim P B β H w) {l o b sz n : Nat} {cs : List Value} {e : TypeId} {k : Kd} (i : Nat) (hb : β l = .live b sz n k) (ho : H.ob l = .cells cs e k) (hk : k ≠ .ro)
    (hlt : o + i + us.length ≤ cs.length) (hu : VRs β us us') (hc : ∀ u ∈ us, isCell u = true),
    ∃ w', (storeCells ⟨b, o, none⟩ us' i).run P w = .ok () w' ∧ Sim P B β (H.set l (.cells (setCells cs (o + i) us) e k)) w' ∧ Evo β w β w'
  | [], us', β, H, w, h, l, o, b, sz, n, cs, e, k, i, hb, ho, hk, hlt, hu, hc => by
    have : us' = [] := List.length_eq_zero_iff.1 (by simpa using hu.1.symm)
    subst this
    refine ⟨w, rfl, ?_, Evo.refl β w⟩
    have : setCells cs (o + i) [] = cs := by simp [setCells]
    rw [this, CH.set_self ho]
    exact h
  | u :: us, us', β, H, w, h, l, o, b, sz, n, cs, e, k, i, hb, ho, hk, hlt, hu, hc => by
    match us', hu with
    | [], hu => exact absurd hu.1 (by simp)
    | u' :: us', hu =>
      have hu0 : VR β u u' := by
        obtain ⟨v', h1, h2⟩ := hu.2 0 u rfl
        simp at h1; subst h1; exact h2
      have hus : VRs β us us' := ⟨by simpa using hu.1, fun i v hv => by simpa using hu.2 (i + 1) v (by simpa using hv)⟩
      have hlt' : o + i + (us.length + 1) ≤ cs.length := by simpa using hlt
      obtain ⟨⟨x, hx⟩, hf, hS, hE⟩ := h.store (o := o + i) hb ho hk (by omega) hu0
      obtain ⟨w', hr, hS', hE'⟩ := Sim.stores hS (us := us) (us' := us') (o := o) (cs := cs.set (o + i) u) (e := e) (i + 1) hb (by simp [CH.set]) hk (by simp; omega) hus (fun y hy => hc y (List.mem_cons_of_mem _ hy))
      have hcell := hu0.isCell (hc u (List.mem_cons_self ..))
      refine ⟨w', ?_, ?_, hE.trans hE'⟩
      · simp only [storeCells]
        rw [Addr.add_lit]
        have hst : (Go.store ⟨b, o + i, none⟩ u' : Sem Unit).run P w = .ok () (w.setCell ⟨b, o + i, none⟩ u') := by
          unfold Go.store
          cases u' <;> first | (simp [Sem.run, hx, hf]; done) | cases hcell
        simp only [Sem.run_bind, hst, Result.andThen_ok]
        exact hr
      · rw [CH.set_set] at hS'
        rw [show o + (i + 1) = (o + i) + 1 by omega, setCells_cons (by simpa using hlt')] at hS'
        exact hS'
theorem Sim.stores0 {us us' : List Value} {β : Nat → Ent} {H : CH} {w : World} (h : Sim P B β H w) {l o b sz n : Nat} {cs : List Value} {e : TypeId} {k : Kd} (hb : β l = .live b sz n k) (ho : H.ob l = .cells cs e k) (hk : k ≠ .ro)
    (hlt : o + us.length ≤ cs.length) (hu : VRs β us us') (hc : ∀ u ∈ us, isCell u = true) :
    ∃ w', (storeCells ⟨b, o, none⟩ us').run P w = .ok () w' ∧ Sim P B β (H.set l (.cells (setCells cs o us) e k)) w' ∧ Evo β w β w' :=
  h.stores 0 hb ho hk hlt hu hc
/-- Cells read from a row. -/
theorem Live.reads {β : Nat → Ent} {w : World} {b sz n : Nat} {k : Kd} {cs : List Value} {e : TypeId} (h : Live P B β w b sz n k cs e) (o m : Nat) (hm : o + m ≤ cs.length) :
    ∃ us' : List Value, VRs β ((cs.drop o).take m) us' ∧ us'.length = m ∧ ∀ j v, us'[j]? = some v → w.cell? ((⟨b, o, none⟩ : Addr).add j) = some v := by
  obtain ⟨cs', e', fr, h1, h2, h3, h4, h5⟩ := h
  refine ⟨(cs'.toList.drop o).take m, ⟨by simp; omega, fun i v hv => ?_⟩, by simp; omega, fun j v hj => ?_⟩
  · rw [List.getElem?_take] at hv ⊢
    split at hv
    · rename_i hi
      rw [List.getElem?_drop] at hv
      obtain ⟨v', a, b⟩ := h4 _ v hv
      exact ⟨v', by rw [if_pos hi, List.getElem?_drop]; simpa using a, b⟩
    · cases hv
  · rw [Addr.add_lit]
    rw [List.getElem?_take] at hj
    split at hj
    · rw [List.getElem?_drop] at hj
      simp only [World.cell?, h1]
      simpa using hj
    · cases hj
end Can
end Go.Proofs.Ytmpojphjongdcaa
