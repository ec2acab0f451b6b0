/- Apart, told: in each world the rows are named by their real room; then it is walked. -/
import Derived.Test.YtopmheekeooodaaSlAp
import Derived.Test.YtopmheekeooodaaSlTd
namespace Go.Proofs.Ytopmheekeooodaa
namespace Can
open Go Go.RowKit
set_option linter.unusedSimpArgs false
set_option linter.unusedVariables false
set_option maxRecDepth 4000
variable {B : Nat}
/-- The row that a name is. -/
def idx (n : Nat) (P : Nat → Bool) (x : Nat → Nat) (l : Nat) : Option Nat := (List.range n).find? fun k => P k && decide (l = x k)
theorem idx_some {n : Nat} {P : Nat → Bool} {x : Nat → Nat} {l k : Nat} (h : idx n P x l = some k) : k < n ∧ P k = true ∧ l = x k := by
  have h1 := List.find?_some h
  have h2 := List.mem_of_find?_eq_some h
  simp only [Bool.and_eq_true, decide_eq_true_eq] at h1
  exact ⟨List.mem_range.1 h2, h1.1, h1.2⟩
theorem idx_of {n : Nat} {P : Nat → Bool} {x : Nat → Nat} (hd : ∀ k k', k < n → k' < n → P k = true → P k' = true → x k = x k' → k = k') {k : Nat} (hk : k < n) (hP : P k = true) : idx n P x (x k) = some k := by
  cases h : idx n P x (x k) with
  | none =>
    have := List.find?_eq_none.1 h k (List.mem_range.2 hk)
    simp [hP] at this
  | some j =>
    obtain ⟨h1, h2, h3⟩ := idx_some h
    rw [hd k j hk h1 hP h2 h3]
/-- The memory without the rows and their list. -/
def killH (H : CH) (b n : Nat) (P : Nat → Bool) (x : Nat → Nat) : CH := ⟨H.nx, fun l => if l = b then .dead else match idx n P x l with
  | some _ => .dead
  | none => H.ob l⟩
def killB (β : Nat → Ent) (b n : Nat) (P : Nat → Bool) (x : Nat → Nat) : Nat → Ent := fun l => if l = b then .dead else match idx n P x l with
  | some _ => .dead
  | none => β l
/-- The rows as they are in a world. -/
def realH (H : CH) (b n : Nat) (P : Nat → Bool) (x : Nat → Nat) (o : CObj) (sz : Nat → Nat) : CH := ⟨H.nx, fun l => if l = b then o else match idx n P x l with
  | some k => .cells (List.replicate (sz k) undef) 42 .ex
  | none => match H.ob l with
    | .unborn => .unborn
    | _ => .dead⟩
def realB (β : Nat → Ent) (b n : Nat) (P : Nat → Bool) (x : Nat → Nat) (bk sz : Nat → Nat) : Nat → Ent := fun l => if l = b then β b else match idx n P x l with
  | some k => .live (bk k, 0) 1 (sz k) .ex
  | none => match β l with
    | .unborn => .unborn
    | _ => .dead
theorem u64_size : (Try.prog.info? 42).map (·.size) = some 1 := by kernel_rfl
theorem apart_call {H : CH} {b n : Nat} {P : Nat → Bool} {L x o c : Nat → Nat} {q : Nat → Option Addr} {oc : List Value} {e : TypeId} {kd : Kd} (hn0 : 0 < n) (hn : n ≤ 2097152) (hob : H.ob b = .cells oc e kd) (hro : kd.isRo = false) (he : e ≠ 42) (hol : oc.length = n) (hor : ∀ k, k < n → oc[k]? = some (.slice (q k) (L k) (c k)))
    (hP : ∀ k, k < n → P k = true → q k = some ⟨x k, o k, none⟩ ∧ x k ≠ b ∧ ∃ cs kd, H.ob (x k) = .cells cs 42 kd ∧ kd.isRo = false) (hF : ∀ k, k < n → P k = false → L k = 0 ∧ c k = 0 ∧ (q k = none ∨ q k = some ⟨0, 0, some 0⟩))
    (hd : ∀ k k', k < n → k' < n → P k = true → P k' = true → x k = x k' → k = k') (hL : ∀ k, k < n → L k ≤ 17592186044000) :
    CallC Try.prog B 12 [.slice (some ⟨b, 0, none⟩) n n] H (.bool true) (killH H b n P x) := by
  refine ⟨by kernel_rfl, fun β w args' hS ha => ?_⟩
  obtain ⟨a', rfl, ha1⟩ : ∃ a', args' = [a'] ∧ VR β (.slice (some ⟨b, 0, none⟩) n n) a' := by
    obtain ⟨h1, h2⟩ := ha
    match args', h1 with
    | [a'], _ =>
      obtain ⟨v', q1, q2⟩ := h2 0 _ rfl
      cases q1
      exact ⟨a', rfl, q2⟩
  -- the list
  obtain ⟨bb, sb, nb, hβb, hLb⟩ := hS.cells hob
  have hLb0 := hLb
  obtain ⟨cs', e', fr, b1, b2, b3, b4, b5, b6, b7, b8⟩ := hLb
  have hnro : ∀ {k : Kd}, k.isRo = false → k ≠ .ro := fun h e => by rw [e] at h; cases h
  -- the rows
  have hrow : ∀ k, ∃ y : Nat × Nat × Nat × Nat, k < n → P k = true → β (x k) = .live (y.1, y.2.1) 1 y.2.2.1 (match H.ob (x k) with | .cells _ _ kd => kd | _ => .ex) ∧ (match H.ob (x k) with | .cells _ _ kd => kd | _ => .ex) ≠ .ro ∧ B ≤ y.1 ∧
      (∃ cs fr, w.heap[y.1]? = some (.cells cs 42 fr) ∧ cs.size = y.2.2.1 ∧ FrOk y.2.2.1 fr) ∧ ((y.2.1 + o k + y.2.2.2 ≤ y.2.2.1 ∧ L k ≤ y.2.2.2 ∧ y.2.2.2 ≤ maxLen ∧ cs'[k + bb.2]? = some (.slice (some ⟨y.1, o k + y.2.1, none⟩) (L k) y.2.2.2)) ∨ (L k = 0 ∧ ∃ a, cs'[k + bb.2]? = some (.slice (some a) 0 0))) := fun k => by
    by_cases hk : k < n ∧ P k = true
    · obtain ⟨h1, h3, csk, kk, h4, h5⟩ := hP k hk.1 hk.2
      obtain ⟨bk, sk, nk, hβk, c1, e1, f1, g1, g2, g3, g4, g5, g6, g7, g8⟩ := hS.cells h4
      have hk5 := hnro h5
      have hs1 : sk = 1 := by have := g5 hk5; rw [u64_size] at this; exact (Option.some.inj this).symm
      subst hs1
      obtain ⟨g61, g62, g63⟩ := g6 hk5
      obtain ⟨v', v1, v2⟩ := b4 k _ (hor k hk.1)
      rw [h1] at v2
      generalize hLk : L k = lk at v2
      generalize hck : c k = ck at v2
      generalize hxk : x k = xk at v2
      generalize hok : o k = ok at v2
      cases v2 with
      | @sl _ _ b' sz' n' m' c' c'' k' i h1' h2' h3' h4' h5' =>
        rw [← hxk, hβk] at i
        cases i
        subst g61 hLk hck hok hxk
        refine ⟨(bk.1, bk.2, nk, c''), fun _ _ => ⟨by rw [h4]; exact hβk, by rw [h4]; exact hk5, g62, ⟨c1, f1, g1, g2, g63⟩, .inl ⟨?_, Nat.le_trans h1' h2', h3', v1⟩⟩⟩
        have := h4' hk5
        show bk.2 + o k + c'' ≤ nk
        omega
      | sdead a i => rw [← hxk, hβk] at i; cases i
      | szero a i =>
        subst g61 hok hxk
        exact ⟨(bk.1, bk.2, nk, 0), fun _ _ => ⟨by rw [h4]; exact hβk, by rw [h4]; exact hk5, g62, ⟨c1, f1, g1, g2, g63⟩, .inr ⟨rfl, a, v1⟩⟩⟩
    · exact ⟨(0, 0, 0, 0), fun h1 h2 => absurd ⟨h1, h2⟩ hk⟩
  obtain ⟨y, hy⟩ := Classical.axiomOfChoice hrow
  -- those that are none
  have hnone : ∀ k, k < n → P k = false → (q k = none ∧ cs'[k + bb.2]? = some (.slice none 0 0)) ∨ (q k = some ⟨0, 0, some 0⟩ ∧ ∃ a, cs'[k + bb.2]? = some (.slice (some a) 0 0)) := fun k hk hp => by
    obtain ⟨v', v1, v2⟩ := b4 k _ (hor k hk)
    obtain ⟨h1, h2, h3⟩ := hF k hk hp
    rw [h1, h2] at v2
    rcases h3 with h3 | h3
    · rw [h3] at v2
      cases v2
      exact .inl ⟨h3, v1⟩
    · rw [h3] at v2
      cases v2
      exact .inr ⟨h3, _, v1⟩
  -- the memory by its real room
  obtain ⟨P2, hP2⟩ : ∃ P2 : Nat → Bool, ∀ k, (P2 k = true → P k = true) ∧ (k < n → if P2 k = true then (y k).2.1 + o k + (y k).2.2.2 ≤ (y k).2.2.1 ∧ L k ≤ (y k).2.2.2 ∧ (y k).2.2.2 ≤ maxLen ∧ cs'[k + bb.2]? = some (.slice (some ⟨(y k).1, o k + (y k).2.1, none⟩) (L k) (y k).2.2.2) else L k = 0 ∧ (cs'[k + bb.2]? = some (.slice none 0 0) ∨ ∃ a, cs'[k + bb.2]? = some (.slice (some a) 0 0))) := by
    have : ∀ k, ∃ b2 : Bool, (b2 = true → P k = true) ∧ (k < n → if b2 = true then (y k).2.1 + o k + (y k).2.2.2 ≤ (y k).2.2.1 ∧ L k ≤ (y k).2.2.2 ∧ (y k).2.2.2 ≤ maxLen ∧ cs'[k + bb.2]? = some (.slice (some ⟨(y k).1, o k + (y k).2.1, none⟩) (L k) (y k).2.2.2) else L k = 0 ∧ (cs'[k + bb.2]? = some (.slice none 0 0) ∨ ∃ a, cs'[k + bb.2]? = some (.slice (some a) 0 0))) := fun k => by
      by_cases hk : k < n
      · cases hp : P k with
        | true =>
          rcases (hy k hk hp).2.2.2.2 with h | ⟨h, a⟩
          · exact ⟨true, fun _ => rfl, fun _ => by rw [if_pos rfl]; exact h⟩
          · exact ⟨false, fun h => (by cases h), fun _ => by rw [if_neg (by decide)]; exact ⟨h, .inr a⟩⟩
        | false =>
          refine ⟨false, fun h => (by cases h), fun _ => ?_⟩
          rw [if_neg (by decide)]
          refine ⟨(hF k hk hp).1, ?_⟩
          rcases hnone k hk hp with ⟨_, h⟩ | ⟨_, h⟩
          · exact .inl h
          · exact .inr h
      · exact ⟨false, fun h => (by cases h), fun h => absurd h hk⟩
    exact Classical.axiomOfChoice this
  have hQ : ∀ k, ∃ q0 : Option Addr, (q0 = none ∨ q0 = some ⟨0, 0, some 0⟩) ∧ (k < n → P2 k = false → L k = 0 ∧ ∃ v', cs'[k + bb.2]? = some v' ∧ ∀ β', VR β' (.slice q0 0 0) v') := fun k => by
    by_cases hk : k < n ∧ P2 k = false
    · have h := (hP2 k).2 hk.1
      rw [if_neg (by rw [hk.2]; decide)] at h
      rcases h with ⟨h0, h | ⟨a, h⟩⟩
      · exact ⟨none, .inl rfl, fun _ _ => ⟨h0, _, h, fun _ => .snil⟩⟩
      · exact ⟨_, .inr rfl, fun _ _ => ⟨h0, _, h, fun _ => .svoid a⟩⟩
    · exact ⟨none, .inl rfl, fun h1 h2 => absurd ⟨h1, h2⟩ hk⟩
  obtain ⟨q0, hq0⟩ := Classical.axiomOfChoice hQ
  have hR2 : ∀ k, k < n → P2 k = true → (y k).2.1 + o k + (y k).2.2.2 ≤ (y k).2.2.1 ∧ L k ≤ (y k).2.2.2 ∧ (y k).2.2.2 ≤ maxLen ∧ cs'[k + bb.2]? = some (.slice (some ⟨(y k).1, o k + (y k).2.1, none⟩) (L k) (y k).2.2.2) := fun k hk hp => by
    have h := (hP2 k).2 hk
    rw [if_pos hp] at h
    exact h
  let C : Nat → Nat := fun k => if P2 k = true then (y k).2.2.2 else 0
  let o2 : Nat → Nat := fun k => o k + (y k).2.1
  let q2 : Nat → Option Addr := fun k => if P2 k = true then some ⟨x k, o2 k, none⟩ else q0 k
  let oc2 : List Value := (List.range n).map fun k => .slice (q2 k) (L k) (C k)
  let H2 := realH H b n P x (.cells oc2 e kd) fun k => (y k).2.2.1
  let β2 := realB β b n P x (fun k => (y k).1) fun k => (y k).2.2.1
  have hxb : ∀ k, k < n → P k = true → x k ≠ b := fun k hk hp => (hP k hk hp).2.1
  have hβx : ∀ k, k < n → P k = true → β2 (x k) = .live ((y k).1, 0) 1 (y k).2.2.1 .ex := fun k hk hp => by
    show (if x k = b then _ else match idx n P x (x k) with | some k => _ | none => _) = _
    rw [if_neg (hxb k hk hp), idx_of hd hk hp]
  have hHx : ∀ k, k < n → P k = true → H2.ob (x k) = .cells (List.replicate (y k).2.2.1 undef) 42 .ex := fun k hk hp => by
    show (if x k = b then _ else match idx n P x (x k) with | some k => _ | none => _) = _
    rw [if_neg (hxb k hk hp), idx_of hd hk hp]
  have hβ2b : β2 b = .live bb sb nb kd := (if_pos rfl).trans hβb
  have hH2b : H2.ob b = .cells oc2 e kd := if_pos rfl
  have hoc2 : ∀ k, k < n → oc2[k]? = some (.slice (q2 k) (L k) (C k)) := fun k hk => by
    show ((List.range n).map _)[k]? = _
    rw [List.getElem?_map, List.getElem?_range hk]; rfl
  have hol2 : oc2.length = n := by show ((List.range n).map _).length = n; simp
  have e1 : ∀ k, P2 k = true → q2 k = some ⟨x k, o2 k, none⟩ ∧ C k = (y k).2.2.2 := fun k h => ⟨if_pos h, if_pos h⟩
  have e2 : ∀ k, P2 k = false → q2 k = q0 k ∧ C k = 0 := fun k h => ⟨if_neg (by simp [h]), if_neg (by simp [h])⟩
  have hkn : kd ≠ .ro := hnro hro
  have hVb : ∀ (i : Nat) (v : Value), oc2[i]? = some v → ∃ v', cs'[i + bb.2]? = some v' ∧ VR β2 v v' := fun i v hv => by
    have hi : i < n := by
      have := (List.getElem?_eq_some_iff.1 hv).1; omega
    rw [hoc2 i hi] at hv
    cases hv
    by_cases hp : P2 i = true
    · obtain ⟨r3, r5, r6, r9⟩ := hR2 i hi hp
      refine ⟨_, r9, ?_⟩
      rw [(e1 i hp).1, (e1 i hp).2]
      refine VR.sl (b := ((y i).1, 0)) (o := o2 i) (hβx i hi ((hP2 i).1 hp)) r5 (Nat.le_refl _) r6 (fun _ => ?_) (fun _ => rfl)
      show o i + (y i).2.1 + 0 + (y i).2.2.2 * 1 ≤ (y i).2.2.1
      omega
    · have hp : P2 i = false := by simpa using hp
      obtain ⟨h0, v', h1, h2⟩ := (hq0 i).2 hi hp
      rw [(e2 i hp).1, (e2 i hp).2, h0]
      exact ⟨v', h1, h2 _⟩
  have hβ2n : ∀ l, l ≠ b → idx n P x l = none → β2 l = match β l with | .unborn => .unborn | _ => .dead := fun l h1 h2 => by
    show (if l = b then _ else match idx n P x l with | some k => _ | none => _) = _
    rw [if_neg h1, h2]
  have hH2n : ∀ l, l ≠ b → idx n P x l = none → H2.ob l = match H.ob l with | .unborn => .unborn | _ => .dead := fun l h1 h2 => by
    show (if l = b then _ else match idx n P x l with | some k => _ | none => _) = _
    rw [if_neg h1, h2]
  have hown : ∀ l bl, (β2 l).owns bl → (β l).owns bl ∧ B ≤ bl ∧ (l = b ∨ ∃ k, idx n P x l = some k) := fun l bl h => by
    by_cases hlb : l = b
    · subst hlb
      rw [hβ2b] at h
      rw [hβb]
      refine ⟨h, ?_, .inl rfl⟩
      obtain ⟨h1, h2⟩ := h
      rw [← h2]; exact (b6 h1).2.1
    · cases hi : idx n P x l with
      | some k =>
        obtain ⟨k1, k2, rfl⟩ := idx_some hi
        rw [hβx k k1 k2] at h
        obtain ⟨r1, r2, r7, r8, r9⟩ := hy k k1 k2
        obtain ⟨_, h2⟩ := h
        rw [r1]
        exact ⟨⟨r2, h2⟩, by rw [← h2]; exact r7, .inr ⟨k, rfl⟩⟩
      | none =>
        rw [hβ2n l hlb hi] at h
        cases hb : β l <;> rw [hb] at h <;> exact h.elim
  have hS2 : Sim Try.prog B β2 H2 w := by
    refine ⟨fun l => ?_, fun l hl => ?_, fun l l' bl h1 h2 => hS.inj l l' bl (hown l bl h1).1 (hown l' bl h2).1, hS.base⟩
    · by_cases hlb : l = b
      · subst hlb
        rw [hβ2b, hH2b]
        exact ⟨rfl, cs', e', fr, b1, b2, by rw [hol2, ← hol]; exact b3, hVb, b5, b6, b7, fun h => by rw [hol2, ← hol]; exact b8 h⟩
      · cases hi : idx n P x l with
        | some k =>
          obtain ⟨k1, k2, rfl⟩ := idx_some hi
          rw [hβx k k1 k2, hHx k k1 k2]
          obtain ⟨r1, r2, r7, ⟨cs, fr2, s1, s2, s3⟩, r9⟩ := hy k k1 k2
          refine ⟨rfl, cs, 42, fr2, s1, s2, by simp, fun i v hv => ?_, fun _ => u64_size, fun _ => ⟨rfl, r7, s3⟩, fun h => (by cases h), fun _ => ⟨by simp, rfl⟩⟩
          have hi : i < (y k).2.2.1 := by have := (List.getElem?_eq_some_iff.1 hv).1; simpa using this
          rw [List.getElem?_replicate, if_pos hi] at hv
          cases hv
          exact ⟨cs[i]'(by omega), by rw [Nat.add_zero]; exact Array.getElem?_eq_getElem (by omega), .undef _⟩
        | none =>
          have h1 := hS.ent l
          rw [hβ2n l hlb hi, hH2n l hlb hi]
          cases hb : β l <;> cases ho : H.ob l <;> rw [hb, ho] at h1 <;> first | trivial | exact h1.elim
    · have hu := hS.nx l hl
      have hlb : l ≠ b := fun h => by rw [h, hob] at hu; cases hu
      have hi : idx n P x l = none := by
        cases hi : idx n P x l with
        | none => rfl
        | some k =>
          obtain ⟨k1, k2, rfl⟩ := idx_some hi
          obtain ⟨_, _, csk, kk, h4, _⟩ := hP k k1 k2
          rw [h4] at hu; cases hu
      rw [hH2n l hlb hi, hu]
  have ha2 : VR β2 (.slice (some ⟨b, 0, none⟩) n n) a' := by
    generalize hnn : n = nn at ha1
    cases ha1 with
    | sl h h1 h2 h3 h4 h5 =>
      rw [hβb] at h; cases h
      subst hnn
      exact .sl hβ2b h1 h2 h3 h4 h5
    | sdead a h => rw [hβb] at h; cases h
    | szero a h => omega
  have hA2 : AI H2 n P2 x o2 C (fun _ _ => False) := fun k hk hp => ⟨_, hHx k hk ((hP2 k).1 hp), by
    obtain ⟨r3, r5, r6, r9⟩ := hR2 k hk hp
    rw [(e1 k hp).2, List.length_replicate]
    show o k + (y k).2.1 + _ ≤ _
    omega, fun _ _ h => h.elim⟩
  have hRV : RVC n P2 L x o2 C q2 C := fun k hk => by
    by_cases hp : P2 k = true
    · rw [if_pos hp]
      obtain ⟨r3, r5, r6, r9⟩ := hR2 k hk hp
      refine ⟨(e1 k hp).1, rfl, ?_⟩
      rw [(e1 k hp).2]; omega
    · have hp' : P2 k = false := by simpa using hp
      rw [if_neg hp, (e2 k hp').1, (e2 k hp').2]
      exact ⟨((hq0 k).2 hk hp').1, rfl, (hq0 k).1⟩
  have hlt : ∀ l, H.ob l ≠ .unborn → l < H.nx := fun l h => by
    rcases Nat.lt_or_ge l H.nx with h1 | h1
    · exact h1
    · exact absurd (hS.nx l h1) h
  have hw := apart_wp (H := H2) (b := b) (n := n) (c := n) (P := P2) (L := L) (x := x) (o := o2) (C := C) (qv := q2) (cv := C) ⟨oc2, e, kd, hH2b, he, hol2, hoc2⟩ hRV hA2 (hlt b (by rw [hob]; exact fun h => by cases h)) (fun k hk hp => ⟨hlt _ (by obtain ⟨_, _, csk, kk, h4, _⟩ := hP k hk ((hP2 k).1 hp); rw [h4]; exact fun h => by cases h), hxb k hk ((hP2 k).1 hp)⟩) (fun k k' h1 h2 h3 h4 => hd k k' h1 h2 ((hP2 k).1 h3) ((hP2 k').1 h4)) hn hL
  obtain ⟨m, v, H', h1, rfl⟩ := hw
  have hc := calls_of_ev tg_ok h1 hS2 (VRs.cons ha2 (VRs.nil _)) (by kernel_rfl)
  refine callsIn_wide.2 (hc.mono fun e w' ⟨v', β', he, hv, hS', hE⟩ => ?_)
  cases hv
  have hkb : killB β b n P x b = .dead := if_pos rfl
  have hks : ∀ l k, l ≠ b → idx n P x l = some k → killB β b n P x l = .dead ∧ (killH H b n P x).ob l = .dead := fun l k h1 h2 => by
    constructor
    · show (if l = b then _ else match idx n P x l with | some k => _ | none => _) = _
      rw [if_neg h1, h2]
    · show (if l = b then _ else match idx n P x l with | some k => _ | none => _) = _
      rw [if_neg h1, h2]
  have hkn : ∀ l, l ≠ b → idx n P x l = none → killB β b n P x l = β l ∧ (killH H b n P x).ob l = H.ob l := fun l h1 h2 => by
    constructor
    · show (if l = b then _ else match idx n P x l with | some k => _ | none => _) = _
      rw [if_neg h1, h2]
    · show (if l = b then _ else match idx n P x l with | some k => _ | none => _) = _
      rw [if_neg h1, h2]
  have hext : EntExt β (killB β b n P x) := fun l => by
    by_cases hlb : l = b
    · subst hlb
      exact .inr (.inr ⟨_, _, _, _, hβb, hkb⟩)
    · cases hi : idx n P x l with
      | some k =>
        obtain ⟨k1, k2, rfl⟩ := idx_some hi
        exact .inr (.inr ⟨_, _, _, _, (hy k k1 k2).1, (hks _ _ hlb hi).1⟩)
      | none => exact .inl (hkn l hlb hi).1
  have hkown : ∀ l bl, (killB β b n P x l).owns bl → (β l).owns bl ∧ l ≠ b ∧ idx n P x l = none := fun l bl h => by
    by_cases hlb : l = b
    · subst hlb; rw [hkb] at h; exact h.elim
    · cases hi : idx n P x l with
      | some k => rw [(hks l k hlb hi).1] at h; exact h.elim
      | none => rw [(hkn l hlb hi).1] at h; exact ⟨h, hlb, rfl⟩
  refine ⟨_, killB β b n P x, he, .bool _, ⟨fun l => ?_, fun l hl => ?_, fun l l' bl h1 h2 => hS.inj l l' bl (hkown l bl h1).1 (hkown l' bl h2).1, Nat.le_trans hS.base hE.size⟩, ⟨hE.os, hE.tape, hE.output, hE.size, fun bl hbl hout => ⟨(hE.keep bl hbl fun l h => hout l (hown l bl h).1).1, fun l h => hout l (hkown l bl h).1⟩, hext⟩⟩
  · by_cases hlb : l = b
    · subst hlb
      rw [hkb]
      show EntRel _ _ _ _ .dead (if l = l then _ else _)
      rw [if_pos rfl]; trivial
    · cases hi : idx n P x l with
      | some k => rw [(hks l k hlb hi).1, (hks l k hlb hi).2]; trivial
      | none =>
        rw [(hkn l hlb hi).1, (hkn l hlb hi).2]
        have hel := hS.ent l
        refine hel.mono hext fun bl hbl => ?_
        have hsz : bl < w.heap.size ∧ ((β l).owns bl ∨ bl < B) := by
          have ho : ∀ ob, w.heap[bl]? = some ob → bl < w.heap.size := fun ob h => (Array.getElem?_eq_some_iff.1 h).1
          rcases hbl with ⟨z, sz, nn, kk, hbl⟩ | hbl | hbl
          · rw [hbl] at hel ⊢
            cases hob' : H.ob l with
            | cells cs0 e0 k0 =>
              rw [hob'] at hel
              obtain ⟨rfl, c1, ee, ff, z1, z2, z3, z4, z5, z6, z7, z8⟩ := hel
              refine ⟨ho _ z1, ?_⟩
              by_cases hk : kk = .ro
              · exact .inr (z7 hk)
              · exact .inl ⟨hk, rfl⟩
            | _ => rw [hob'] at hel; exact hel.elim
          · rw [hbl] at hel ⊢
            cases hob' : H.ob l with
            | map es cl =>
              rw [hob'] at hel
              obtain ⟨_, es', z1, _⟩ := hel
              exact ⟨ho _ z1, .inl rfl⟩
            | siter s p =>
              rw [hob'] at hel
              exact ⟨ho _ hel.2, .inl rfl⟩
            | miter m =>
              rw [hob'] at hel
              obtain ⟨_, _, _, _, _, _, z1⟩ := hel
              exact ⟨ho _ z1, .inl rfl⟩
            | _ => rw [hob'] at hel; exact hel.elim
          · rw [hbl] at hel ⊢
            cases hob' : H.ob l with
            | loop st pend fr0 key =>
              rw [hob'] at hel
              obtain ⟨_, r, N, z1, _⟩ := hel
              exact ⟨ho _ z1, .inl rfl⟩
            | _ => rw [hob'] at hel; exact hel.elim
        refine (hE.keep bl hsz.1 fun l' h => ?_).1
        obtain ⟨o1, o2', o3⟩ := hown l' bl h
        rcases hsz.2 with h2 | h2
        · have := hS.inj l l' bl h2 o1
          subst this
          rcases o3 with o3 | ⟨k, o3⟩
          · exact hlb o3
          · rw [hi] at o3; cases o3
        · omega
  · have hu := hS.nx l hl
    have hlb : l ≠ b := fun h => by rw [h, hob] at hu; cases hu
    cases hi : idx n P x l with
    | none => rw [(hkn l hlb hi).2]; exact hu
    | some k =>
      obtain ⟨k1, k2, rfl⟩ := idx_some hi
      obtain ⟨_, _, csk, kk, h4, _⟩ := hP k k1 k2
      rw [h4] at hu; cases hu
end Can
end Go.Proofs.Ytopmheekeooodaa
