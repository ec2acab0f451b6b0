/- Parse: a token TOut stands behind the end of a statement; so does what follows a statement. No program in sight. Lex: what is computed, in plain words: bytes, tokens, rows. No program in sight. -/
import Derived.Test.YtnkfdkfmdeibfaaZa
import Derived.WalkKit
section
namespace Go.Proofs.Ytnkfdkfmdeibfaa
namespace Can
set_option linter.unusedSimpArgs false
set_option linter.unusedVariables false
section
variable {ts : List PT}
def St (ts : List PT) (p : Nat) : Prop := 0 < p ∧ ((nowT ts (p - 1)).kind = 1 ∨ (nowT ts (p - 1)).kind = 3)
def KJ (ts : List PT) (b : Bool) (i : Nat) : PR → Prop
  | some (.ok (_, j)) => (∀ q, i ≤ q → q < j → (nowT ts q).kind = 3 → b = true ∧ St ts q) ∧ (b = true → St ts j)
  | _ => True
theorem KJ.weak {b : Bool} {i i' : Nat} {r : PR} (h : KJ ts b i r) (hi : i ≤ i') : KJ ts b i' r := by
  match r, h with
  | none, _ => exact trivial
  | some (.error e), _ => exact trivial
  | some (.ok (l, j)), h => exact ⟨fun q h1 => h.1 q (by omega), h.2⟩
theorem KJ.back {b : Bool} {i p : Nat} {r : PR} (h : KJ ts b (p + 1) r) (h1 : p ≤ i) (hk : (nowT ts p).kind ≠ 3) : KJ ts b i r := by
  match r, h with
  | none, _ => exact trivial
  | some (.error e), _ => exact trivial
  | some (.ok (l, j)), h => exact ⟨fun q h1 h2 h3 => h.1 q (Nat.lt_of_le_of_ne (by omega) fun e => hk (by rw [e]; exact h3)) h2 h3, h.2⟩
theorem kj_er {b : Bool} {i e : Nat} : KJ ts b i (some (.error e)) := trivial
theorem kj_if {c : Prop} [Decidable c] {b : Bool} {i : Nat} {A B : PR} (h1 : KJ ts b i A) (h2 : KJ ts b i B) : KJ ts b i (if c then A else B) := by
  split
  · exact h1
  · exact h2
theorem kj_is {s : List UInt8} {b : Bool} {i p : Nat} {A B : PR} (hp : p ≤ i) (h1 : KJ ts b (p + 1) A) (h2 : KJ ts b i B) : KJ ts b i (if isT ts p s = true then A else B) := by
  split
  · rename_i h; exact h1.back hp (is_k3 h)
  · exact h2
theorem kj_kk {x y : Int} {b : Bool} {i p : Nat} {A B : PR} (hx : 4 ≤ x) (hp : p ≤ i) (h1 : KJ ts b (p + 1) A) (h2 : KJ ts b i B) : KJ ts b i (if x ≤ (nowT ts p).kind ∧ (nowT ts p).kind ≤ y then A else B) := by
  split
  · rename_i h; exact h1.back hp (by omega)
  · exact h2
theorem kj_k1 {b : Bool} {i p : Nat} {A B : PR} (hp : p ≤ i) (h1 : KJ ts b (p + 1) A) (h2 : KJ ts b i B) : KJ ts b i (if (nowT ts p).kind = 1 then A else B) := by
  split
  · rename_i h; exact h1.back hp (by omega)
  · exact h2
theorem kj_k3 {i p : Nat} {A B : PR} (hp : p ≤ i) (hs : St ts p) (h1 : (nowT ts p).kind = 3 → KJ ts true (p + 1) A) (h2 : KJ ts true i B) : KJ ts true i (if (nowT ts p).kind = 3 then A else B) := by
  split
  · rename_i h
    have h1 := h1 h
    match A, h1 with
    | none, _ => exact trivial
    | some (.error e), _ => exact trivial
    | some (.ok (l, j)), h1 =>
      refine ⟨fun q q1 q2 q3 => ?_, h1.2⟩
      by_cases e : q = p
      · rw [e]; exact ⟨rfl, hs⟩
      · exact h1.1 q (by omega) q2 q3
  · exact h2
theorem kj_au {b : Bool} {i p : Nat} {A B : PR} (hp : p ≤ i) (h1 : KJ ts b i A) (h2 : KJ ts b (p + 1) B) : KJ ts b i (if augT ts p = 0 then A else B) := by
  split
  · exact h1
  · rename_i h
    refine h2.back hp fun hk => h ?_
    have hn : ∀ s, isT ts p s = false := fun s => by
      cases hs : isT ts p s with
      | false => rfl
      | true => exact absurd hk (is_k3 hs)
    unfold augT
    simp only [hn, Bool.false_eq_true, if_false]
theorem kj_wantB {s : List UInt8} {b : Bool} {i p : Nat} {k : Nat → PR} (hp : p ≤ i) (h : KJ ts b (p + 1) (k (p + 1))) : KJ ts b i (wantB ts s p k) := kj_is hp h kj_er
theorem kj_wantK {kd : Int} {b : Bool} {i p : Nat} {k : List UInt8 → Nat → PR} (h3 : kd ≠ 3) (hp : p ≤ i) (h : (nowT ts p).kind = kd → ∀ x, KJ ts b (p + 1) (k x (p + 1))) : KJ ts b i (wantK ts kd p k) := by
  unfold wantK
  split
  · rename_i hk; exact (h hk _).back hp (by rw [hk]; exact h3)
  · exact kj_er
theorem kj_pb {b b' : Bool} {i p : Nat} {r : PR} {k : List Nd → Nat → PR} (h : KJ ts b' p r) (hp : p ≤ i) (hb : b' = true → b = true) (hk : ∀ l j, (b' = true → St ts j) → KJ ts b j (k l j)) : KJ ts b i (pb r k) := by
  match r, h with
  | none, _ => exact trivial
  | some (.error e), _ => exact trivial
  | some (.ok (l, j)), h =>
    show KJ ts b i (k l j)
    have h2 := hk l j h.2
    revert h2
    cases k l j with
    | none => intro _; exact trivial
    | some x =>
      match x with
      | .error e => intro _; exact trivial
      | .ok (l2, j2) =>
        intro h2
        refine ⟨fun q q1 q2 q3 => ?_, h2.2⟩
        rcases Nat.lt_or_ge q j with g | g
        · obtain ⟨g1, g2⟩ := h.1 q (by omega) g q3
          exact ⟨hb g1, g2⟩
        · exact h2.1 q g q2 q3
theorem kj_pb1 {b b' : Bool} {i p : Nat} {r : PR} {k : Nd → Nat → PR} (h : KJ ts b' p r) (hp : p ≤ i) (hb : b' = true → b = true) (hk : ∀ n j, (b' = true → St ts j) → KJ ts b j (k n j)) : KJ ts b i (pb1 r k) := kj_pb h hp hb fun l j hj => by
  match l with
  | [] => exact trivial
  | _ :: _ :: _ => exact trivial
  | [n] => exact hk n j hj
theorem kj_ok {b : Bool} {i j : Nat} {l : List Nd} (hj : j ≤ i) (h : b = true → St ts j) : KJ ts b i (some (.ok (l, j))) := ⟨fun q h1 h2 => by omega, h⟩
theorem kj_pk {b : Bool} {i j : Nat} {n : Nd} (hj : j ≤ i) (h : b = true → St ts j) : KJ ts b i (pk1 n j) := kj_ok hj h
theorem kj_op {b : Bool} {i : Nat} {A : PR} {B : Nat → Nat → PR} (hA : KJ ts b i A) (hB : ∀ op j, KJ ts b j (B op j)) : KJ ts b i (match opT ts i with | .error e => some (.error e) | .ok (0, _) => A | .ok (op + 1, j) => B op j) := by
  have main : ∀ r : Except Nat (Nat × Nat), (∀ op j, r = .ok (op + 1, j) → ∀ q, i ≤ q → q < j → (nowT ts q).kind ≠ 3) → KJ ts b i (match r with | .error e => some (.error e) | .ok (0, _) => A | .ok (op + 1, j) => B op j) := fun r hr => by
    match r, hr with
    | .error e, _ => exact trivial
    | .ok (0, _), _ => exact hA
    | .ok (op + 1, j), hr =>
      have h2 := hB op j
      have h3 := hr op j rfl
      show KJ ts b i (B op j)
      revert h2
      cases B op j with
      | none => intro _; exact trivial
      | some x =>
        match x with
        | .error e => intro _; exact trivial
        | .ok (l2, j2) =>
          intro h2
          refine ⟨fun q q1 q2 q3 => ?_, h2.2⟩
          rcases Nat.lt_or_ge q j with g | g
          · exact absurd q3 (h3 q q1 g)
          · exact h2.1 q g q2 q3
  have one : ∀ s o, isT ts i s = true → ∀ op j, (Except.ok (o, i + 1) : Except Nat (Nat × Nat)) = .ok (op + 1, j) → ∀ q, i ≤ q → q < j → (nowT ts q).kind ≠ 3 := fun s o hs op j e q h1 h2 => by
    cases e
    have : q = i := by omega
    rw [this]; exact is_k3 hs
  have two : ∀ s s' o, isT ts i s = true → isT ts (i + 1) s' = true → ∀ op j, (Except.ok (o, i + 2) : Except Nat (Nat × Nat)) = .ok (op + 1, j) → ∀ q, i ≤ q → q < j → (nowT ts q).kind ≠ 3 := fun s s' o hs hs' op j e q h1 h2 => by
    cases e
    rcases (show q = i ∨ q = i + 1 by omega) with e | e
    · rw [e]; exact is_k3 hs
    · rw [e]; exact is_k3 hs'
  refine main _ ?_
  unfold opT
  repeat' split
  all_goals first
    | exact one _ _ (by assumption)
    | exact two _ _ _ (by assumption) (by assumption)
    | (intro op j e; cases e)
structure JH (ts : List PT) (f : Nat) : Prop where
  E : ∀ a i, a.stat = false → a.isTop = false → KJ ts false i (gr ts f a i)
  A : ∀ a i, a.stat = true → a.adv = true → KJ ts true i (gr ts f a i)
  S : ∀ a i, a.stat = true → St ts i → KJ ts true i (gr ts f a i)
  m : ∀ (all : Bool) i, KJ ts false i (gr ts f (if all = true then .exprs else .expr) i)
set_option maxHeartbeats 4000000 in
theorem kj_all {f : Nat} (h : JH ts f) (a : NT) (i : Nat) (ht : a.isTop = false) (hs : a.stat = true → a.adv = false → St ts i) : KJ ts a.stat i (gr ts (f + 1) a i) := by
  cases a
  case top acc => cases ht
  case cmpL n acc =>
    simp only [gr]
    exact kj_op (kj_pk (Nat.le_refl _) fun e => by cases e) fun op j => kj_pb1 (h.E _ _ rfl rfl) (Nat.le_refl _) (fun e => e) fun m k _ => (h.E _ _ rfl rfl).weak (Nat.le_refl _)
  case asgL l acc =>
    simp only [gr]
    refine kj_is (Nat.le_refl _) ?_ (kj_pk (Nat.le_refl _) fun e => by cases e)
    cases acc.getLast? with
    | none => exact trivial
    | some n => exact kj_if (kj_pb1 (h.E _ _ rfl rfl) (Nat.le_refl _) (fun e => e) fun m k _ => (h.E _ _ rfl rfl).weak (Nat.le_refl _)) trivial
  case' triesL acc => have hs0 := hs rfl rfl
  case' triesF l acc => have hs0 := hs rfl rfl
  all_goals simp only [gr, NT.stat]
  all_goals clear hs ht
  all_goals (repeat' first
    | exact kj_er
    | (with_reducible refine kj_wantB (by omega) ?_)
    | (with_reducible refine kj_wantK (by decide) (by omega) fun hk x => ?_)
    | (with_reducible refine kj_is (by omega) ?_ ?_)
    | (with_reducible refine kj_kk (by decide) (by omega) ?_ ?_)
    | (with_reducible refine kj_k1 (by omega) ?_ ?_)
    | (with_reducible refine kj_k3 (by omega) (hs rfl) (fun hk => ?_) ?_)
    | (with_reducible refine kj_au (by omega) ?_ ?_)
    | (with_reducible refine kj_if ?_ ?_)
    | (with_reducible refine kj_pb1 (h.m _ _) (by omega) (fun e => by cases e) fun n j hs => ?_)
    | (with_reducible refine kj_pb1 (h.E _ _ (by with_unfolding_all exact rfl) (by with_unfolding_all exact rfl)) (by omega) (fun e => by cases e) fun n j hs => ?_)
    | (with_reducible refine kj_pb1 (h.A _ _ (by with_unfolding_all exact rfl) (by with_unfolding_all exact rfl)) (by omega) (fun e => e) fun n j hs => ?_)
    | (with_reducible refine kj_pb (h.E _ _ (by with_unfolding_all exact rfl) (by with_unfolding_all exact rfl)) (by omega) (fun e => by cases e) fun n j hs => ?_)
    | (with_reducible refine kj_pb (h.S _ _ (by with_unfolding_all exact rfl) (hs rfl)) (by omega) (fun e => e) fun n j hs => ?_)
    | (with_reducible refine KJ.weak (h.E _ _ (by with_unfolding_all exact rfl) (by with_unfolding_all exact rfl)) (by omega))
    | (with_reducible refine KJ.weak (h.A _ _ (by with_unfolding_all exact rfl) (by with_unfolding_all exact rfl)) (by omega))
    | (with_reducible refine KJ.weak (h.S _ _ (by with_unfolding_all exact rfl) (hs rfl)) (by omega))
    | (with_reducible refine kj_pk (by omega) ?_)
    | (with_reducible refine kj_ok (by omega) ?_)
    | exact fun e => Bool.noConfusion e
    | exact fun _ => hs rfl
    | exact fun _ => hs0
    | exact fun _ => ⟨by omega, .inl hk⟩
    | exact fun _ => ⟨by omega, .inr hk⟩)
theorem gr_kj : ∀ f a i, a.isTop = false → (a.stat = true → a.adv = false → St ts i) → KJ ts a.stat i (gr ts f a i) := by
  intro f
  induction f with
  | zero => intro a i _ _; exact trivial
  | succ f ih =>
    intro a i ht hs
    refine kj_all ⟨fun a i h1 h2 => ?_, fun a i h1 h2 => ?_, fun a i h1 h2 => ?_, fun all i => ?_⟩ a i ht hs
    · have := ih a i h2 fun e => by rw [h1] at e; cases e
      rwa [h1] at this
    · have := ih a i (by cases a <;> first | rfl | cases h1) fun _ e => by rw [h2] at e; cases e
      rwa [h1] at this
    · have := ih a i (by cases a <;> first | rfl | cases h1) fun _ _ => h2
      rwa [h1] at this
    · cases all
      · exact ih .expr i rfl fun e => by cases e
      · exact ih .exprs i rfl fun e => by cases e
theorem top_kj : ∀ f acc i l j, gr ts f (.top acc) i = some (.ok (l, j)) → (∀ q, i ≤ q → q < j → (nowT ts q).kind = 3 → St ts q) ∧ (j = i ∨ St ts j) ∧ (nowT ts j).kind = 0 ∧ i ≤ j := by
  intro f
  induction f with
  | zero => intro acc i l j h; cases h
  | succ f ih =>
    intro acc i l j h
    simp only [gr] at h
    split at h
    · rename_i hk
      cases h
      exact ⟨fun q h1 h2 => by omega, .inl rfl, hk, Nat.le_refl _⟩
    · have hs := gr_kj (ts := ts) f .stmt i rfl fun _ e => by cases e
      have hr := gr_rel (ts := ts) (us := ts) (N := 0) (Nb := 0) (d := 0) (ln := true) ⟨fun p hp => by omega, .inl rfl⟩ f .stmt .stmt i i rfl (.z rfl)
      match hq : gr ts f .stmt i, hs, hr with
      | none, _, _ => rw [hq] at h; cases h
      | some (.error e), _, _ => rw [hq] at h; cases h
      | some (.ok (n, i1)), hs, hr =>
        rw [hq] at h
        match n, h with
        | [], h => cases h
        | _ :: _ :: _, h => cases h
        | [s], h =>
          obtain ⟨h1, h2, h3, h4⟩ := ih _ _ _ _ (show gr ts f (.top (acc ++ [s])) i1 = _ from h)
          have hi1 : i + 1 ≤ i1 := hr.1
          refine ⟨fun q q1 q2 q3 => ?_, .inr ?_, h3, by omega⟩
          · rcases Nat.lt_or_ge q i1 with g | g
            · exact (hs.1 q q1 g q3).2
            · exact h1 q g q2 q3
          · rcases h2 with e | h2
            · rw [e]; exact hs.2 rfl
            · exact h2
end
end Can
end Go.Proofs.Ytnkfdkfmdeibfaa
end
section
namespace Go.Proofs.Ytnkfdkfmdeibfaa
namespace Can
set_option linter.unusedSimpArgs false
set_option linter.unusedVariables false
def isLetN (n : Nat) : Bool := decide (n = 95 ∨ (97 ≤ n ∧ n ≤ 122) ∨ (65 ≤ n ∧ n ≤ 90))
def isDigN (n : Nat) : Bool := decide (48 ≤ n ∧ n ≤ 57)
def isAlN (n : Nat) : Bool := isLetN n || isDigN n
def hd : List UInt8 → Nat
  | c :: _ => c.toNat
  | [] => 0
def nW (p : Nat → Bool) : List UInt8 → Nat
  | c :: r => if p c.toNat then nW p r + 1 else 0
  | [] => 0
theorem nW_le {p : Nat → Bool} : ∀ {l : List UInt8}, nW p l ≤ l.length
  | [] => Nat.le_refl _
  | c :: r => by
    simp only [nW]
    split
    · have := nW_le (p := p) (l := r); simp; omega
    · simp
theorem hd_drop {l : List UInt8} {j : Nat} (h : j < l.length) : hd (l.drop j) = l[j].toNat := by
  rw [List.drop_eq_getElem_cons h]; rfl
theorem nW_yes {p : Nat → Bool} {l : List UInt8} {j : Nat} (h : j < l.length) (hp : p (hd (l.drop j)) = true) : nW p (l.drop j) = nW p (l.drop (j + 1)) + 1 := by
  rw [hd_drop h] at hp
  rw [List.drop_eq_getElem_cons h, nW, if_pos hp]
theorem nW_no {p : Nat → Bool} {l : List UInt8} (h : l = [] ∨ p (hd l) = false) : nW p l = 0 := by
  rcases h with rfl | h
  · rfl
  · cases l with
    | nil => rfl
    | cons c r => simp only [hd] at h; simp [nW, h]
theorem hd_pos {l : List UInt8} (h : hd l ≠ 0) : 0 < l.length := by
  cases l with
  | nil => exact absurd rfl h
  | cons c r => simp
theorem hd_lt {l : List UInt8} : hd l < 256 := by
  cases l with
  | nil => decide
  | cons c r => exact c.toNat_lt
def digN (l : List UInt8) : Nat := nW isDigN l
def fracN (l : List UInt8) : Nat := if hd l = 46 ∧ isDigN (hd (l.drop 1)) = true then 1 + digN (l.drop 1) else 0
def expN (l : List UInt8) : Nat := if hd l = 101 then (if isDigN (hd (l.drop 1)) = true then 1 + digN (l.drop 1) else if (hd (l.drop 1) = 43 ∨ hd (l.drop 1) = 45) ∧ isDigN (hd (l.drop 2)) = true then 2 + digN (l.drop 2) else 0) else 0
def numA (l : List UInt8) : Nat := digN l + fracN (l.drop (digN l))
def numN (l : List UInt8) : Nat := numA l + expN (l.drop (numA l))
def numK (l : List UInt8) : Nat := if fracN (l.drop (digN l)) = 0 ∧ expN (l.drop (numA l)) = 0 then 5 else 6
def numBad (l : List UInt8) : Bool := isLetN (hd (l.drop (numN l))) || decide (hd (l.drop (numN l)) = 46) || decide (540 < numN l) || (decide (numK l = 5) && decide (1 < numN l) && decide (hd l = 48))
def hexN (n : Nat) : Nat := if 48 ≤ n ∧ n ≤ 57 then n - 48 else if 97 ≤ n ∧ n ≤ 102 then n - 87 else if 65 ≤ n ∧ n ≤ 70 then n - 55 else 16
def stdN (n : Nat) : Nat := if n = 110 then 10 else if n = 116 then 9 else if n = 92 ∨ n = 39 ∨ n = 34 then n else 0
def escN (l : List UInt8) : Option (Nat × Nat) :=
  if hd l = 120 then (if hexN (hd (l.drop 1)) < 16 ∧ hexN (hd (l.drop 2)) < 16 then some (16 * hexN (hd (l.drop 1)) + hexN (hd (l.drop 2)), 3) else none)
  else if stdN (hd l) ≠ 0 then some (stdN (hd l), 1) else none
def strN (q : Nat) : Nat → List UInt8 → Option (List UInt8 × Nat)
  | 0, _ => none
  | f + 1, l => if hd l = q then some ([], 1) else if hd l < 32 then none else if hd l ≠ 92 then (strN q f (l.drop 1)).map fun x => (UInt8.ofNat (hd l) :: x.1, x.2 + 1)
    else match escN (l.drop 1) with
      | some (b, n) => (strN q f (l.drop (1 + n))).map fun x => (UInt8.ofNat b :: x.1, x.2 + (1 + n))
      | none => none
def strT (q : Nat) (l : List UInt8) : Option (List UInt8 × Nat) := strN q (l.length + 1) l
def S3 : List (List UInt8) := [[42, 42, 61], [47, 47, 61]]
def S2 : List (List UInt8) := [[42, 42], [47, 47], [61, 61], [33, 61], [60, 61], [62, 61], [43, 61], [45, 61], [42, 61], [47, 61], [37, 61]]
def S1 : List UInt8 := [43, 45, 42, 47, 37, 61, 60, 62, 40, 41, 91, 93, 123, 125, 44, 58, 46]
def symN (l : List UInt8) : Option Nat := if l.take 3 ∈ S3 then some 3 else if l.take 2 ∈ S2 then some 2 else if hd l ∈ S1.map UInt8.toNat then some 1 else none
def wordsL : List (List UInt8) := [[97, 110, 100], [97, 115], [97, 115, 115, 101, 114, 116], [98, 114, 101, 97, 107], [99, 108, 97, 115, 115], [99, 111, 110, 116, 105, 110, 117, 101], [100, 101, 102], [100, 101, 108], [101, 108, 105, 102], [101, 108, 115, 101], [101, 120, 99, 101, 112, 116], [102, 105, 110, 97, 108, 108, 121], [102, 111, 114], [103, 108, 111, 98, 97, 108], [105, 102], [105, 110], [105, 115], [108, 97, 109, 98, 100, 97], [110, 111, 110, 108, 111, 99, 97, 108], [110, 111, 116], [111, 114], [112, 97, 115, 115], [114, 97, 105, 115, 101], [114, 101, 116, 117, 114, 110], [116, 114, 121], [119, 104, 105, 108, 101], [119, 105, 116, 104], [121, 105, 101, 108, 100], [84, 114, 117, 101], [70, 97, 108, 115, 101], [78, 111, 110, 101]]
def tokT (l : List UInt8) : Option (Nat × List UInt8 × Nat) :=
  if isLetN (hd l) = true then some (if l.take (nW isAlN l) ∈ wordsL then 8 else 4, l.take (nW isAlN l), nW isAlN l)
  else if isDigN (hd l) = true then (if numBad l = true then none else some (numK l, l.take (numN l), numN l))
  else if hd l = 39 ∨ hd l = 34 then (strT (hd l) (l.drop 1)).map fun x => (7, x.1, x.2 + 1)
  else (symN l).map fun n => (9, l.take n, n)
def depT (d k : Nat) (x : List UInt8) : Nat := if k = 9 ∧ x ∈ [[40], [91], [123]] then d + 1 else if k = 9 ∧ x ∈ [[41], [93], [125]] ∧ 0 < d then d - 1 else d
def blkN (l : List UInt8) : Nat := if hd (l.drop (nW (fun n => decide (n = 32)) l)) = 35 then nW (fun n => decide (n = 32)) l + nW (fun n => decide (n ≠ 10)) (l.drop (nW (fun n => decide (n = 32)) l)) else nW (fun n => decide (n = 32)) l
structure Tok where
  kind : Nat
  line : Nat
  text : List UInt8
def toks (line : Nat) : Nat → List UInt8 → Nat → Option (List Tok × Nat)
  | 0, _, _ => none
  | f + 1, t, d => if t.length ≤ blkN t then some ([], d) else match tokT (t.drop (blkN t)) with
    | none => none
    | some (k, x, n) => (toks line f (t.drop (blkN t + n)) (depT d k x)).map fun y => (⟨k, line, x⟩ :: y.1, y.2)
def indT (line : Nat) (st : List Nat) (n : Nat) : List Tok × List Nat := if st.headD 0 < n then ([⟨2, line, []⟩], n :: st) else (List.replicate (st.takeWhile fun x => decide (n < x)).length ⟨3, line, []⟩, st.dropWhile fun x => decide (n < x))
def rowT (line : Nat) (t : List UInt8) (d : Nat) (st : List Nat) : Except Nat (List Tok × Nat × List Nat) :=
  if t.length ≤ blkN t then .ok ([], d, st)
  else if d = 0 ∧ (indT line st (blkN t)).2.headD 0 ≠ blkN t then .error 21
  else match toks line (t.length + 1) t d with
    | none => .error 20
    | some (ts, d') => .ok ((if d = 0 then (indT line st (blkN t)).1 else []) ++ ts ++ (if d' = 0 then [⟨1, line, []⟩] else []), d', if d = 0 then (indT line st (blkN t)).2 else st)
def rowsT : Nat → List (List UInt8) → Nat → List Nat → Except (Nat × Nat) (List Tok × List Nat)
  | _, [], _, st => .ok ([], st)
  | line, t :: ts, d, st => match rowT line t d st with
    | .error e => .error (line, e)
    | .ok (x, d', st') => match rowsT (line + 1) ts d' st' with
      | .error e => .error e
      | .ok (y, z) => .ok (x ++ y, z)
def splitN : List UInt8 → List (List UInt8)
  | [] => [[]]
  | c :: r => if c.toNat = 10 then [] :: splitN r else match splitN r with
    | t :: ts => (c :: t) :: ts
    | [] => [[c]]
def endT (rows : Nat) (st : List Nat) : List Tok := List.replicate (st.length - 1) ⟨3, rows, []⟩ ++ [⟨0, rows, []⟩]
def lexT (src : List UInt8) : Except (Nat × Nat) (List Tok) :=
  if 20000 < src.length then .error (0, 24) else match rowsT 1 (splitN src) 0 [0] with
    | .error e => .error e
    | .ok (x, st) => .ok (x ++ endT (splitN src).length st)
end Can
end Go.Proofs.Ytnkfdkfmdeibfaa
end
