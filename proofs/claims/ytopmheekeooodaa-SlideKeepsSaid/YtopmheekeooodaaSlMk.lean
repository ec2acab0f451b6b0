/- Slide: what marking keeps; plain. -/
import Derived.Test.YtopmheekeooodaaSlF
namespace Go.Proofs.Ytopmheekeooodaa
namespace Can
set_option linter.unusedSimpArgs false
set_option linter.unusedVariables false
/-- The bit of a head that says that the object is reached. -/
def mkB : Int := 9223372036854775808
def upF (f : Nat → Int) (i : Nat) (x : Int) : Nat → Int := fun j => if j = i then x else f j
/-- The objects that are still to be looked at hang together by the words behind their heads. -/
def Lk (f : Nat → Int) : Nat → List Nat → Prop
  | h, [] => h = 0
  | h, [s] => h = s ∧ f (s + 1) = s
  | h, s :: t :: r => h = s ∧ f (s + 1) = t ∧ Lk f t (t :: r)
theorem Lk.up {f : Nat → Int} {j : Nat} {x : Int} : ∀ {st : List Nat} {h : Nat}, Lk f h st → (∀ s ∈ st, s + 1 ≠ j) → Lk (upF f j x) h st
  | [], h, hl, _ => hl
  | [s], h, hl, hn => ⟨hl.1, by unfold upF; rw [if_neg (hn s (by simp))]; exact hl.2⟩
  | s :: t :: r, h, hl, hn => ⟨hl.1, by unfold upF; rw [if_neg (hn s (by simp))]; exact hl.2.1, hl.2.2.up fun y hy => hn y (List.mem_cons_of_mem _ hy)⟩
/-- The memory f amid marking: S are marked, st are still to be looked at, from h on; of ex it is not yet said that it leads to marked ones. -/
structure MI (ws roots : List Int) (ls : List Nat) (f : Nat → Int) (S st : List Nat) (h : Nat) (ex : Nat → Nat → Prop) : Prop where
  hd : ∀ a ∈ ls, f a = wd ws a + (if a ∈ S then mkB else 0)
  lk0 : ∀ a ∈ ls, a ∉ st → f (a + 1) = 0
  lkn : ∀ a ∈ ls, 0 ≤ f (a + 1) ∧ f (a + 1) < 18446744073709551616
  rest : ∀ i, (∀ a ∈ ls, i ≠ a ∧ i ≠ a + 1) → f i = wd ws i
  link : Lk f h st
  ndS : S.Nodup
  ndst : st.Nodup
  sub : ∀ a ∈ st, a ∈ S
  inL : ∀ a ∈ S, a ∈ ls
  rc : ∀ a ∈ S, Rc ws roots a
  black : ∀ a ∈ S, a ∉ st → ∀ i, i < tgN ws a → kindF (wd ws (a + 2 + i)) = 0 → adr (wd ws (a + 2 + i)) ∈ S ∨ ex a i
theorem len_le : ∀ {S ls : List Nat}, S.Nodup → (∀ a ∈ S, a ∈ ls) → S.length ≤ ls.length
  | [], ls, _, _ => by simp
  | a :: S, ls, hs, h => by
    have hn := List.nodup_cons.1 hs
    have ha := h a (List.mem_cons_self ..)
    have := len_le (S := S) (ls := ls.erase a) hn.2 fun b hb => (List.mem_erase_of_ne (fun e => hn.1 (by rw [← e]; exact hb))).2 (h b (List.mem_cons_of_mem _ hb))
    rw [List.length_erase_of_mem ha] at this
    have : 0 < ls.length := List.length_pos_of_mem ha
    simp only [List.length_cons]; omega
theorem MI.cnt {ws roots : List Int} {ls : List Nat} {f : Nat → Int} {S st : List Nat} {h : Nat} {ex : Nat → Nat → Prop} (m : MI ws roots ls f S st h ex) : S.length ≤ ls.length := len_le m.ndS m.inL
/-- The head of what is to be looked at. -/
theorem Lk.head {f : Nat → Int} {h : Nat} {st : List Nat} (k : Lk f h st) (hp : ∀ s ∈ st, 1 ≤ s) : h = 0 ↔ st = [] := by
  match st, k with
  | [], k => exact ⟨fun _ => rfl, fun _ => k⟩
  | [s], k => have := hp s (by simp); exact ⟨fun e => by have := k.1; omega, fun e => by cases e⟩
  | s :: t :: r, k => have := hp s (by simp); exact ⟨fun e => by have := k.1; omega, fun e => by cases e⟩
/-- One more is marked. -/
theorem MI.push {ws roots : List Int} {tn : Nat} {ls : List Nat} {f : Nat → Int} {S st : List Nat} {h : Nat} {ex : Nat → Nat → Prop} (hF : Form ws tn ls) (m : MI ws roots ls f S st h ex) {a : Nat} (ha : a ∈ ls) (hS : a ∉ S) (hr : Rc ws roots a) :
    MI ws roots ls (upF (upF f a (wd ws a + mkB)) (a + 1) (if h = 0 then (a : Int) else (h : Int))) (a :: S) (a :: st) a ex := by
  have hst : a ∉ st := fun e => hS (m.sub a e)
  have sep : ∀ b ∈ ls, b ≠ a → b ≠ a + 1 ∧ b + 1 ≠ a := fun b hb hne => by
    have h1 := (hF.ch.mem b hb).2.1
    have h2 := (hF.ch.mem a ha).2.1
    rcases hF.ch.sep hb ha hne with h | h <;> omega
  have pos : ∀ b ∈ ls, 1 ≤ b := fun b hb => (hF.ch.mem b hb).1
  have hlt : a < 1048576 := by have := (hF.ch.mem a ha).2.2; have := hF.top; have := hF.len; have := (hF.ch.mem a ha).2.1; omega
  have hh : h = 0 ∨ h ∈ st := by
    have hl := m.link
    match st, hl with
    | [], k => exact .inl k
    | [s], k => exact .inr (by rw [k.1]; simp)
    | s :: t :: r, k => exact .inr (by rw [k.1]; simp)
  have hlt2 : h < 1048576 := by
    rcases hh with h0 | h0
    · omega
    · have := m.inL _ (m.sub _ h0)
      have h2 := (hF.ch.mem _ this).2; have := hF.top; have := hF.len
      omega
  refine ⟨fun b hb => ?_, fun b hb hbs => ?_, fun b hb => ?_, fun i hi => ?_, ?_, List.nodup_cons.2 ⟨hS, m.ndS⟩, List.nodup_cons.2 ⟨hst, m.ndst⟩, fun b hb => ?_, fun b hb => ?_, fun b hb => ?_, fun b hb hbs i hi hk => ?_⟩
  · by_cases e : b = a
    · subst e
      unfold upF
      rw [if_neg (by omega), if_pos rfl, if_pos (List.mem_cons_self ..)]
    · have := sep b hb e
      unfold upF
      rw [if_neg this.1, if_neg e, m.hd b hb]
      simp only [List.mem_cons, e, false_or]
  · have e : b ≠ a := fun e => hbs (by rw [e]; exact List.mem_cons_self ..)
    have := sep b hb e
    unfold upF
    rw [if_neg (by omega), if_neg this.2]
    exact m.lk0 b hb fun h => hbs (List.mem_cons_of_mem _ h)
  · unfold upF
    by_cases e : b = a
    · subst e
      rw [if_pos rfl]
      split <;> omega
    · have := sep b hb e
      rw [if_neg (by omega), if_neg this.2]
      exact m.lkn b hb
  · have h1 := hi a ha
    unfold upF
    rw [if_neg h1.2, if_neg h1.1]
    exact m.rest i hi
  · have hk : Lk (upF (upF f a (wd ws a + mkB)) (a + 1) (if h = 0 then (a : Int) else (h : Int))) h st := by
      refine (m.link.up fun s hs => ?_).up fun s hs => ?_
      · have h1 := m.inL _ (m.sub _ hs)
        exact (sep s h1 fun e => hst (e ▸ hs)).2
      · have : s ≠ a := fun e => hst (e ▸ hs)
        omega
    match st, hk with
    | [], k =>
      have k : h = 0 := k
      refine ⟨rfl, ?_⟩
      unfold upF
      rw [if_pos rfl, if_pos k]
    | s :: r, k =>
      have hne : h ≠ 0 := fun e => by
        rcases hh with h0 | h0
        · have := (m.link.head fun s hs => pos s (m.inL _ (m.sub _ hs))).1 e
          cases this
        · have := pos _ (m.inL _ (m.sub _ h0)); omega
      have hs : h = s := by cases r <;> exact k.1
      subst hs
      refine ⟨rfl, ?_, k⟩
      unfold upF
      rw [if_pos rfl, if_neg hne]
  · rcases List.mem_cons.1 hb with rfl | hb
    · exact List.mem_cons_self ..
    · exact List.mem_cons_of_mem _ (m.sub b hb)
  · rcases List.mem_cons.1 hb with rfl | hb
    · exact ha
    · exact m.inL b hb
  · rcases List.mem_cons.1 hb with rfl | hb
    · exact hr
    · exact m.rc b hb
  · rcases List.mem_cons.1 hb with rfl | hb
    · exact absurd (List.mem_cons_self ..) hbs
    · rcases m.black b hb (fun e => hbs (List.mem_cons_of_mem _ e)) i hi hk with h | h
      · exact .inl (List.mem_cons_of_mem _ h)
      · exact .inr h
/-- The first one is taken. -/
theorem MI.pop {ws roots : List Int} {tn : Nat} {ls : List Nat} {f : Nat → Int} {S st : List Nat} {a : Nat} (hF : Form ws tn ls) (m : MI ws roots ls f S (a :: st) a fun _ _ => False) :
    f (a + 1) = (if st = [] then (a : Int) else ((st.headD 0 : Nat) : Int)) ∧ (st ≠ [] → st.headD 0 ≠ a) ∧ MI ws roots ls (upF f (a + 1) 0) S st (st.headD 0) fun b _ => b = a := by
  have haS := m.sub a (List.mem_cons_self ..)
  have ha := m.inL a haS
  have hnd := List.nodup_cons.1 m.ndst
  have sep : ∀ b ∈ ls, b ≠ a → b ≠ a + 1 ∧ b + 1 ≠ a := fun b hb hne => by
    have h1 := (hF.ch.mem b hb).2.1
    have h2 := (hF.ch.mem a ha).2.1
    rcases hF.ch.sep hb ha hne with h | h <;> omega
  refine ⟨?_, fun hne => ?_, fun b hb => ?_, fun b hb hbs => ?_, fun b hb => ?_, fun i hi => ?_, ?_, m.ndS, hnd.2, fun b hb => m.sub b (List.mem_cons_of_mem _ hb), m.inL, m.rc, fun b hb hbs i hi hk => ?_⟩
  · have hl := m.link
    match st, hl with
    | [], k => rw [if_pos rfl]; exact k.2
    | t :: r, k => rw [if_neg (by simp)]; exact k.2.1
  · match st, hne with
    | t :: r, _ => intro e; exact hnd.1 (by simp only [List.headD_cons] at e; rw [← e]; exact List.mem_cons_self ..)
  · have : b ≠ a + 1 := by
      by_cases e : b = a
      · omega
      · exact (sep b hb e).1
    unfold upF
    rw [if_neg this]; exact m.hd b hb
  · unfold upF
    by_cases e : b = a
    · rw [if_pos (by omega)]
    · rw [if_neg (by omega)]
      exact m.lk0 b hb fun h => by
        rcases List.mem_cons.1 h with h | h
        · exact e h
        · exact hbs h
  · unfold upF
    split
    · omega
    · exact m.lkn b hb
  · unfold upF
    rw [if_neg (hi a ha).2]
    exact m.rest i hi
  · have hl := m.link
    match st, hl with
    | [], k => exact rfl
    | t :: r, k =>
      refine k.2.2.up fun s hs => ?_
      have : s ≠ a := fun e => hnd.1 (e ▸ hs)
      omega
  · by_cases e : b = a
    · exact .inr e
    · rcases m.black b hb (fun h => by
        rcases List.mem_cons.1 h with h | h
        · exact e h
        · exact hbs h) i hi hk with h | h
      · exact .inl h
      · exact h.elim
theorem MI.weaken {ws roots : List Int} {ls : List Nat} {f : Nat → Int} {S st : List Nat} {h : Nat} {ex ex' : Nat → Nat → Prop} (m : MI ws roots ls f S st h ex) (hx : ∀ a i, a ∈ S → i < tgN ws a → kindF (wd ws (a + 2 + i)) = 0 → ex a i → adr (wd ws (a + 2 + i)) ∈ S ∨ ex' a i) : MI ws roots ls f S st h ex' :=
  ⟨m.hd, m.lk0, m.lkn, m.rest, m.link, m.ndS, m.ndst, m.sub, m.inL, m.rc, fun a ha hs i hi hk => by
    rcases m.black a ha hs i hi hk with h | h
    · exact .inl h
    · exact hx a i ha hi hk h⟩
/-- When nothing is left, what is marked is what is reached. -/
theorem MI.done {ws roots : List Int} {ls : List Nat} {f : Nat → Int} {S : List Nat} {h : Nat} (m : MI ws roots ls f S [] h fun _ _ => False) (hr : ∀ w ∈ roots, kindF w = 0 → adr w ∈ S) (a : Nat) : a ∈ S ↔ Rc ws roots a := by
  refine ⟨m.rc a, fun hc => ?_⟩
  induction hc with
  | root hw hk => exact hr _ hw hk
  | @step b i hb hi hk ih =>
    rcases m.black b ih (by simp) i hi hk with h | h
    · exact h
    · exact h.elim
theorem MI.start {ws roots : List Int} {tn : Nat} {ls : List Nat} (hF : Form ws tn ls) : MI ws roots ls (wd ws) [] [] 0 fun _ _ => False := by
  refine ⟨fun a ha => by simp, fun a ha _ => (isObj_sz (hF.ob a ha)).2.2.2.1, fun a ha => by rw [(isObj_sz (hF.ob a ha)).2.2.2.1]; decide, fun _ _ => rfl, rfl, .nil, .nil, fun a h => (by cases h), fun a h => (by cases h), fun a h => (by cases h), fun a h => (by cases h)⟩
end Can
end Go.Proofs.Ytopmheekeooodaa
