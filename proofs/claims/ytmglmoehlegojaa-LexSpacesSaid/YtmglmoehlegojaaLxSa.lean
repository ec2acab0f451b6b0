/- Lex, plain: a token written out is that token again. -/
import Derived.Test.YtmglmoehlegojaaLxJo
namespace Go.Proofs.Ytmglmoehlegojaa
namespace Can
set_option linter.unusedSimpArgs false
set_option linter.unusedVariables false
def tokX (k : Nat) (x : List UInt8) : List UInt8 := if k = 7 then UInt8.ofNat 34 :: (x ++ [UInt8.ofNat 34, UInt8.ofNat 32]) else x ++ [UInt8.ofNat 32]
def okStr (x : List UInt8) : Prop := ∀ c ∈ x, 32 ≤ c.toNat ∧ c.toNat ≠ 34 ∧ c.toNat ≠ 92
def GoodT (k : Nat) (x : List UInt8) : Prop := (∀ r, tokT (tokX k x ++ r) = some (k, x, (tokX k x).length - 1)) ∧ (∃ c u, tokX k x = c :: u ∧ c.toNat ≠ 32 ∧ c.toNat ≠ 35) ∧ ∀ c ∈ tokX k x, c.toNat ≠ 10
theorem tokX_end {k : Nat} {x : List UInt8} : ∃ y, tokX k x = y ++ [UInt8.ofNat 32] := by
  unfold tokX
  split
  · exact ⟨UInt8.ofNat 34 :: (x ++ [UInt8.ofNat 34]), by simp⟩
  · exact ⟨x, rfl⟩
theorem nW_app' {p : Nat → Bool} {y : List UInt8} (hy : p (hd y) = false) : ∀ {x : List UInt8}, (∀ c ∈ x, p c.toNat = true) → nW p (x ++ y) = x.length
  | [], _ => nW_no (.inr hy)
  | c :: x, h => by
    rw [List.cons_append, nW, if_pos (h c (by simp)), nW_app' hy fun a ha => h a (by simp [ha])]
    rfl
theorem nW_split {p : Nat → Bool} (h0 : p 0 = false) : ∀ {l : List UInt8}, (∀ c ∈ l.take (nW p l), p c.toNat = true) ∧ p (hd (l.drop (nW p l))) = false
  | [] => ⟨fun c hc => (by cases hc), h0⟩
  | c :: r => by
    obtain ⟨h1, h2⟩ := nW_split h0 (l := r)
    by_cases hp : p c.toNat = true
    · rw [nW, if_pos hp]
      refine ⟨fun a ha => ?_, h2⟩
      rcases List.mem_cons.1 ha with rfl | ha
      · exact hp
      · exact h1 a ha
    · rw [nW, if_neg hp]
      refine ⟨fun a ha => (by cases ha), ?_⟩
      show p c.toNat = false
      simpa using hp
theorem hd_app2 {x y : List UInt8} (h : x ≠ []) : hd (x ++ y) = hd x := by
  cases x with
  | nil => exact absurd rfl h
  | cons c r => rfl
theorem take_hd {l : List UInt8} {n : Nat} (h : 0 < n) : hd (l.take n) = hd l := by
  cases l with
  | nil => simp
  | cons c r => cases n with
    | zero => cases h
    | succ n => rfl
def digs (x : List UInt8) : Prop := ∀ c ∈ x, isDigN c.toNat = true
def FrF (F : List UInt8) : Prop := F = [] ∨ ∃ c G, F = c :: G ∧ c.toNat = 46 ∧ G ≠ [] ∧ digs G
def ExF (E : List UInt8) : Prop := E = [] ∨ ∃ c G, (E = c :: G ∨ ∃ s, (s.toNat = 43 ∨ s.toNat = 45) ∧ E = c :: s :: G) ∧ c.toNat = 101 ∧ G ≠ [] ∧ digs G
theorem dig_take {l : List UInt8} : digs (l.take (digN l)) ∧ isDigN (hd (l.drop (digN l))) = false := nW_split (by decide)
theorem dig_pos {l : List UInt8} (h : isDigN (hd l) = true) : l.take (digN l) ≠ [] ∧ 0 < digN l := by
  cases l with
  | nil => cases h
  | cons c r =>
    have : digN (c :: r) = digN r + 1 := by
      show nW isDigN (c :: r) = _
      rw [nW, if_pos (show isDigN c.toNat = true from h)]; rfl
    rw [this]
    exact ⟨by simp, by omega⟩
theorem frac_form (l : List UInt8) : FrF (l.take (fracN l)) ∧ (l.take (fracN l)).length = fracN l := by
  unfold fracN
  by_cases h : hd l = 46 ∧ isDigN (hd (l.drop 1)) = true
  · rw [if_pos h]
    cases l with
    | nil => cases h.1
    | cons c r =>
      have hr : isDigN (hd r) = true := h.2
      obtain ⟨g1, g2⟩ := dig_pos hr
      have g3 := digN_le (l := r)
      rw [show 1 + digN ((c :: r).drop 1) = digN r + 1 from Nat.add_comm _ _, List.take_succ_cons]
      refine ⟨.inr ⟨c, _, rfl, h.1, g1, dig_take.1⟩, ?_⟩
      simp; omega
  · rw [if_neg h]
    exact ⟨.inl rfl, rfl⟩
theorem exp_form (l : List UInt8) : ExF (l.take (expN l)) ∧ (l.take (expN l)).length = expN l := by
  unfold expN
  by_cases h : hd l = 101
  · rw [if_pos h]
    cases l with
    | nil => cases h
    | cons c r =>
      by_cases h1 : isDigN (hd ((c :: r).drop 1)) = true
      · rw [if_pos h1]
        have hr : isDigN (hd r) = true := h1
        obtain ⟨g1, g2⟩ := dig_pos hr
        have g3 := digN_le (l := r)
        rw [show 1 + digN ((c :: r).drop 1) = digN r + 1 from Nat.add_comm _ _, List.take_succ_cons]
        refine ⟨.inr ⟨c, _, .inl rfl, h, g1, dig_take.1⟩, ?_⟩
        simp; omega
      · rw [if_neg h1]
        by_cases h2 : (hd ((c :: r).drop 1) = 43 ∨ hd ((c :: r).drop 1) = 45) ∧ isDigN (hd ((c :: r).drop 2)) = true
        · rw [if_pos h2]
          cases r with
          | nil => rcases h2.1 with g | g <;> cases g
          | cons s r =>
            have hr : isDigN (hd r) = true := h2.2
            obtain ⟨g1, g2⟩ := dig_pos hr
            have g3 := digN_le (l := r)
            rw [show 2 + digN ((c :: s :: r).drop 2) = digN r + 1 + 1 from by rw [Nat.add_comm]; rfl, List.take_succ_cons, List.take_succ_cons]
            refine ⟨.inr ⟨c, _, .inr ⟨s, h2.1, rfl⟩, h, g1, dig_take.1⟩, ?_⟩
            simp; omega
        · rw [if_neg h2]
          exact ⟨.inl rfl, rfl⟩
  · rw [if_neg h]
    exact ⟨.inl rfl, rfl⟩
/-- A number's parts, read again. -/
theorem num_val {D F E r : List UInt8} (hD : digs D) (hF : FrF F) (hE : ExF E) : digN (D ++ F ++ E ++ UInt8.ofNat 32 :: r) = D.length ∧ fracN ((D ++ F ++ E ++ UInt8.ofNat 32 :: r).drop D.length) = F.length ∧ expN ((D ++ F ++ E ++ UInt8.ofNat 32 :: r).drop (D.length + F.length)) = E.length := by
  have s32 : hd (UInt8.ofNat 32 :: r) = 32 := rfl
  have e0 : hd (E ++ UInt8.ofNat 32 :: r) = 32 ∨ hd (E ++ UInt8.ofNat 32 :: r) = 101 := by
    rcases hE with rfl | ⟨c, G, g1 | ⟨s, _, g1⟩, g2, _⟩
    · exact .inl rfl
    · rw [g1]; exact .inr g2
    · rw [g1]; exact .inr g2
  have ed : isDigN (hd (E ++ UInt8.ofNat 32 :: r)) = false := by rcases e0 with g | g <;> rw [g] <;> decide
  have f0 : isDigN (hd (F ++ (E ++ UInt8.ofNat 32 :: r))) = false := by
    rcases hF with rfl | ⟨c, G, rfl, g2, _⟩
    · exact ed
    · show isDigN c.toNat = false
      rw [g2]; decide
  have d1 : (D ++ F ++ E ++ UInt8.ofNat 32 :: r).drop D.length = F ++ (E ++ UInt8.ofNat 32 :: r) := by
    rw [List.append_assoc, List.append_assoc, List.drop_left' rfl]
  have d2 : (D ++ F ++ E ++ UInt8.ofNat 32 :: r).drop (D.length + F.length) = E ++ UInt8.ofNat 32 :: r := by
    rw [List.append_assoc, List.drop_left' (by simp)]
  refine ⟨?_, ?_, ?_⟩
  · rw [List.append_assoc, List.append_assoc]
    exact nW_app' f0 hD
  · rw [d1]
    rcases hF with rfl | ⟨c, G, rfl, g2, g3, g4⟩
    · unfold fracN
      rw [if_neg (fun g => by have := g.1; rcases e0 with h | h <;> rw [List.nil_append, h] at this <;> cases this)]; rfl
    · have hG : hd (G ++ (E ++ UInt8.ofNat 32 :: r)) = hd G := hd_app2 g3
      have hGd : isDigN (hd G) = true := by cases G with
        | nil => exact absurd rfl g3
        | cons a G => exact g4 a (by simp)
      unfold fracN
      rw [if_pos ⟨g2, by show isDigN (hd (G ++ _)) = true; rw [hG]; exact hGd⟩]
      show 1 + nW isDigN (G ++ _) = _
      rw [nW_app' ed g4]; simp; omega
  · rw [d2]
    have sd : isDigN (hd (UInt8.ofNat 32 :: r)) = false := by rw [s32]; decide
    rcases hE with rfl | ⟨c, G, g1, g2, g3, g4⟩
    · unfold expN
      rw [if_neg (by show ¬ (32 = 101); decide)]; rfl
    · have hG : hd (G ++ UInt8.ofNat 32 :: r) = hd G := hd_app2 g3
      have hGd : isDigN (hd G) = true := by cases G with
        | nil => exact absurd rfl g3
        | cons a G => exact g4 a (by simp)
      rcases g1 with rfl | ⟨s, hs, rfl⟩
      · unfold expN
        rw [if_pos (show hd (c :: G ++ UInt8.ofNat 32 :: r) = 101 from g2), if_pos (by show isDigN (hd (G ++ _)) = true; rw [hG]; exact hGd)]
        show 1 + nW isDigN (G ++ _) = _
        rw [nW_app' sd g4]; simp; omega
      · unfold expN
        rw [if_pos (show hd (c :: s :: G ++ UInt8.ofNat 32 :: r) = 101 from g2), if_neg (by show ¬ isDigN s.toNat = true; rcases hs with g | g <;> rw [g] <;> decide), if_pos ⟨hs, by show isDigN (hd (G ++ _)) = true; rw [hG]; exact hGd⟩]
        show 2 + nW isDigN (G ++ _) = _
        rw [nW_app' sd g4]; simp; omega
theorem num_chars {D F E : List UInt8} (hD : digs D) (hF : FrF F) (hE : ExF E) : ∀ c ∈ D ++ F ++ E, c.toNat ≠ 10 := by
  have hd10 : ∀ n, isDigN n = true → n ≠ 10 := fun n h g => by subst g; cases h
  intro c hc
  rcases List.mem_append.1 hc with hc | hc
  · rcases List.mem_append.1 hc with hc | hc
    · exact hd10 _ (hD c hc)
    · rcases hF with rfl | ⟨a, G, rfl, g2, _, g4⟩
      · cases hc
      · rcases List.mem_cons.1 hc with rfl | hc
        · rw [g2]; decide
        · exact hd10 _ (g4 c hc)
  · rcases hE with rfl | ⟨a, G, g1, g2, _, g4⟩
    · cases hc
    · rcases g1 with rfl | ⟨s, hs, rfl⟩
      · rcases List.mem_cons.1 hc with rfl | hc
        · rw [g2]; decide
        · exact hd10 _ (g4 c hc)
      · rcases List.mem_cons.1 hc with rfl | hc
        · rw [g2]; decide
        · rcases List.mem_cons.1 hc with rfl | hc
          · rcases hs with g | g <;> rw [g] <;> decide
          · exact hd10 _ (g4 c hc)
theorem good_num {l : List UInt8} (hd1 : isDigN (hd l) = true) (hb : numBad l = false) : GoodT (numK l) (l.take (numN l)) := by
  obtain ⟨D, hDe⟩ : ∃ D, l.take (digN l) = D := ⟨_, rfl⟩
  obtain ⟨l1, hl1⟩ : ∃ l1, l.drop (digN l) = l1 := ⟨_, rfl⟩
  obtain ⟨F, hFe⟩ : ∃ F, l1.take (fracN l1) = F := ⟨_, rfl⟩
  obtain ⟨l2, hl2⟩ : ∃ l2, l1.drop (fracN l1) = l2 := ⟨_, rfl⟩
  obtain ⟨E, hEe⟩ : ∃ E, l2.take (expN l2) = E := ⟨_, rfl⟩
  have hDl : D.length = digN l := by rw [← hDe]; have := digN_le (l := l); simp; omega
  obtain ⟨hF, hFl⟩ := frac_form l1
  obtain ⟨hE, hEl⟩ := exp_form l2
  have hD : digs D := by rw [← hDe]; exact dig_take.1
  have hDne : D ≠ [] := by rw [← hDe]; exact (dig_pos hd1).1
  rw [hFe] at hF hFl
  rw [hEe] at hE hEl
  have hA : numA l = D.length + F.length := by unfold numA; rw [hl1, hDl, hFl]
  have hl2' : l.drop (numA l) = l2 := by rw [← hl2, ← hl1, List.drop_drop, hA, hDl, hFl, ← hl1]
  have hN : numN l = D.length + F.length + E.length := by unfold numN; rw [hl2', hA, hEl]
  have hx : l.take (numN l) = D ++ F ++ E := by
    have e1 : l = D ++ l1 := by rw [← hDe, ← hl1, List.take_append_drop]
    have e2 : l1 = F ++ l2 := by rw [← hFe, ← hl2, List.take_append_drop]
    have e3 : l2 = E ++ l2.drop (expN l2) := by rw [← hEe, List.take_append_drop]
    rw [hN]
    have e4 : l = D ++ F ++ E ++ l2.drop (expN l2) := by rw [List.append_assoc, ← e3, List.append_assoc, ← e2, ← e1]
    rw [e4, List.take_left' (by simp only [List.length_append])]
  have hK : numK l = if F.length = 0 ∧ E.length = 0 then 5 else 6 := by unfold numK; rw [hl1, hl2', hFl, hEl]
  have hk7 : numK l ≠ 7 := by rw [hK]; split <;> decide
  rw [hx]
  have hX : tokX (numK l) (D ++ F ++ E) = D ++ F ++ E ++ [UInt8.ofNat 32] := by unfold tokX; rw [if_neg hk7]
  have hhd : ∀ y, hd (D ++ F ++ E ++ y) = hd l := fun y => by
    rw [List.append_assoc, List.append_assoc, hd_app2 hDne, ← hDe, take_hd (dig_pos hd1).2]
  have hlet : isLetN (hd l) = false := by
    unfold isDigN at hd1; unfold isLetN
    simp at hd1 ⊢; omega
  refine ⟨fun r => ?_, ?_, ?_⟩
  · rw [hX, List.append_assoc (D ++ F ++ E), List.singleton_append]
    obtain ⟨v1, v2, v3⟩ := num_val (r := r) hD hF hE
    obtain ⟨L, hL⟩ : ∃ L, D ++ F ++ E ++ UInt8.ofNat 32 :: r = L := ⟨_, rfl⟩
    have hhL := hhd (UInt8.ofNat 32 :: r)
    rw [hL] at v1 v2 v3 hhL ⊢
    have wA : numA L = D.length + F.length := by unfold numA; rw [v1, v2]
    have wN : numN L = D.length + F.length + E.length := by unfold numN; rw [wA, v3]
    have wF : L.drop (digN L) = L.drop D.length := by rw [v1]
    have wE : L.drop (numA L) = L.drop (D.length + F.length) := by rw [wA]
    have wK : numK L = numK l := by rw [hK]; unfold numK; rw [wF, wE, v2, v3]
    have wd : L.drop (numN L) = UInt8.ofNat 32 :: r := by
      rw [wN, ← hL, List.drop_left' (by simp; omega)]
    have wb : numBad L = false := by
      unfold numBad at hb ⊢
      rw [wd, wN, wK, hhL]
      rw [hN] at hb
      simp only [Bool.or_eq_false_iff] at hb ⊢
      exact ⟨⟨⟨by show isLetN 32 = false; decide, decide_eq_false (by show ¬ (32 = 46); decide)⟩, hb.1.2⟩, hb.2⟩
    unfold tokT
    rw [hhL, if_neg (by rw [hlet]; decide), if_pos hd1, if_neg (by rw [wb]; decide), wK, wN]
    have : L.take (D.length + F.length + E.length) = D ++ F ++ E := by rw [← hL, List.take_left' (by simp; omega)]
    rw [this]
    simp only [List.length_append, List.length_singleton, Option.some.injEq, Prod.mk.injEq, true_and]
    omega
  · rw [hX]
    cases D with
    | nil => exact absurd rfl hDne
    | cons c u =>
      have hc : isDigN c.toNat = true := hD c (by simp)
      refine ⟨c, u ++ F ++ E ++ [UInt8.ofNat 32], rfl, ?_, ?_⟩
      · intro g; rw [g] at hc; cases hc
      · intro g; rw [g] at hc; cases hc
  · rw [hX]
    intro c hc
    rcases List.mem_append.1 hc with hc | hc
    · exact num_chars hD hF hE c hc
    · simp at hc; subst hc; decide
theorem al_chars {n : Nat} (h : isAlN n = true) : n ≠ 10 ∧ n ≠ 32 ∧ n ≠ 35 := by
  unfold isAlN isLetN isDigN at h
  simp at h
  omega
theorem good_name {l : List UInt8} (h : isLetN (hd l) = true) : GoodT (if l.take (nW isAlN l) ∈ wordsL then 8 else 4) (l.take (nW isAlN l)) := by
  obtain ⟨g1, g2⟩ := nW_split (p := isAlN) (by decide) (l := l)
  have h0 : 0 < nW isAlN l := by
    cases l with
    | nil => cases h
    | cons c r => rw [nW, if_pos (show isAlN c.toNat = true by unfold isAlN; rw [show isLetN c.toNat = true from h]; rfl)]; omega
  have hh : hd (l.take (nW isAlN l)) = hd l := take_hd h0
  obtain ⟨x, hx⟩ : ∃ x, l.take (nW isAlN l) = x := ⟨_, rfl⟩
  rw [hx] at g1 hh ⊢
  have hne : x ≠ [] := by
    intro e
    rw [e] at hh
    rw [← hh] at h; cases h
  have hX : tokX (if x ∈ wordsL then 8 else 4) x = x ++ [UInt8.ofNat 32] := by unfold tokX; rw [if_neg (by split <;> decide)]
  refine ⟨fun r => ?_, ?_, ?_⟩
  · rw [hX, List.append_assoc, List.singleton_append]
    have hn : nW isAlN (x ++ UInt8.ofNat 32 :: r) = x.length := nW_app' (by show isAlN 32 = false; decide) g1
    unfold tokT
    rw [hd_app2 hne, hh, if_pos h, hn, List.take_left' rfl]
    simp
  · rw [hX]
    cases x with
    | nil => exact absurd rfl hne
    | cons c u =>
      have := al_chars (g1 c (by simp))
      exact ⟨c, u ++ [UInt8.ofNat 32], rfl, this.2.1, this.2.2⟩
  · rw [hX]
    intro c hc
    rcases List.mem_append.1 hc with hc | hc
    · exact (al_chars (g1 c hc)).1
    · simp at hc; subst hc; decide
theorem strN_plain {r : List UInt8} : ∀ {f : Nat} {x : List UInt8}, okStr x → x.length < f → strN 34 f (x ++ UInt8.ofNat 34 :: r) = some (x, x.length + 1)
  | 0, x, _, h => absurd h (by omega)
  | f + 1, [], _, _ => by
    simp only [strN, List.nil_append]
    rw [if_pos (by show 34 = 34; rfl)]; rfl
  | f + 1, c :: x, hx, h => by
    obtain ⟨h1, h2, h3⟩ := hx c (by simp)
    have hc : hd (c :: x ++ UInt8.ofNat 34 :: r) = c.toNat := rfl
    simp only [strN]
    rw [hc, if_neg h2, if_neg (by omega), if_pos h3]
    show Option.map _ (strN 34 f (x ++ UInt8.ofNat 34 :: r)) = _
    rw [strN_plain (fun a ha => hx a (by simp [ha])) (by simp at h; omega)]
    simp
theorem good_str {x : List UInt8} (h : okStr x) : GoodT 7 x := by
  have hX : tokX 7 x = UInt8.ofNat 34 :: (x ++ [UInt8.ofNat 34, UInt8.ofNat 32]) := rfl
  refine ⟨fun r => ?_, ⟨_, _, hX, by decide, by decide⟩, ?_⟩
  · rw [hX]
    obtain ⟨L, hL⟩ : ∃ L, x ++ [UInt8.ofNat 34, UInt8.ofNat 32] ++ r = L := ⟨_, rfl⟩
    have hL2 : L = x ++ UInt8.ofNat 34 :: (UInt8.ofNat 32 :: r) := by rw [← hL, List.append_assoc]; rfl
    rw [List.cons_append, hL]
    unfold tokT
    have hh : hd (UInt8.ofNat 34 :: L) = 34 := rfl
    rw [hh, if_neg (by decide), if_neg (by decide), if_pos (by decide)]
    show Option.map _ (strT 34 L) = _
    unfold strT
    rw [hL2, strN_plain h (by simp; omega)]
    simp
  · rw [hX]
    intro c hc
    rcases List.mem_cons.1 hc with rfl | hc
    · decide
    · rcases List.mem_append.1 hc with hc | hc
      · have := h c hc; omega
      · simp at hc; rcases hc with rfl | rfl <;> decide
theorem sy_hd : ∀ x ∈ S3 ++ S2 ++ S1.map (fun c => [c]), isLetN (hd x) = false ∧ isDigN (hd x) = false ∧ ¬ (hd x = 39 ∨ hd x = 34) ∧ (∃ c u, x = c :: u) ∧ hd x ≠ 32 ∧ hd x ≠ 35 ∧ ∀ c ∈ x, c.toNat ≠ 10 := by
  have : ∀ x ∈ S3 ++ S2 ++ S1.map (fun c => [c]), isLetN (hd x) = false ∧ isDigN (hd x) = false ∧ ¬ (hd x = 39 ∨ hd x = 34) ∧ x ≠ [] ∧ hd x ≠ 32 ∧ hd x ≠ 35 ∧ ∀ c ∈ x, c.toNat ≠ 10 := by decide
  intro x hx
  obtain ⟨h1, h2, h3, h4, h5⟩ := this x hx
  refine ⟨h1, h2, h3, ?_, h5⟩
  cases x with
  | nil => exact absurd rfl h4
  | cons c u => exact ⟨c, u, rfl⟩
theorem good_sym {l : List UInt8} {n : Nat} (h : symN l = some n) : GoodT 9 (l.take n) := by
  have hX : ∀ x, tokX 9 x = x ++ [UInt8.ofNat 32] := fun x => rfl
  have key : ∃ x, l.take n = x ∧ x ∈ S3 ++ S2 ++ S1.map (fun c => [c]) ∧ ∀ r, symN (x ++ UInt8.ofNat 32 :: r) = some x.length := by
    unfold symN at h
    split at h
    · rename_i g
      cases h
      refine ⟨_, rfl, by simp only [List.mem_append]; exact .inl (.inl g), fun r => ?_⟩
      have hl : (l.take 3).length = 3 := (by decide : ∀ x ∈ S3, x.length = 3) _ g
      unfold symN
      rw [List.take_left' hl, if_pos g, hl]
    · split at h
      · rename_i g
        cases h
        refine ⟨_, rfl, by simp only [List.mem_append]; exact .inl (.inr g), fun r => ?_⟩
        have hl : (l.take 2).length = 2 := (by decide : ∀ x ∈ S2, x.length = 2) _ g
        unfold symN
        have h3 : (l.take 2 ++ UInt8.ofNat 32 :: r).take 3 = l.take 2 ++ [UInt8.ofNat 32] := by
          rw [List.take_append, hl, List.take_of_length_le (by omega)]; rfl
        rw [h3, if_neg ((by decide : ∀ x ∈ S2, x ++ [UInt8.ofNat 32] ∉ S3) _ g), List.take_left' hl, if_pos g, hl]
      · split at h
        · rename_i g
          cases h
          cases l with
          | nil => exact absurd g (by decide)
          | cons c u =>
            have hc : c ∈ S1 := by
              obtain ⟨y, hy, e⟩ := List.mem_map.1 g
              rwa [← UInt8.toNat.inj e]
            refine ⟨[c], rfl, by simp only [List.mem_append]; exact .inr (List.mem_map.2 ⟨c, hc, rfl⟩), fun r => ?_⟩
            unfold symN
            have n3 : ([c] ++ UInt8.ofNat 32 :: r).take 3 ∉ S3 := by
              have h32 : ∀ x ∈ S3, x[1]? ≠ some (UInt8.ofNat 32) := by decide
              intro hm
              exact h32 _ hm rfl
            have n2 : ([c] ++ UInt8.ofNat 32 :: r).take 2 ∉ S2 := by
              have h32 : ∀ x ∈ S2, x[1]? ≠ some (UInt8.ofNat 32) := by decide
              intro hm
              exact h32 _ hm rfl
            rw [if_neg n3, if_neg n2, if_pos (show hd ([c] ++ UInt8.ofNat 32 :: r) ∈ _ from g)]; rfl
        · cases h
  obtain ⟨x, hx, hm, hs⟩ := key
  rw [hx]
  obtain ⟨h1, h2, h3, ⟨c, u, rfl⟩, h5, h6, h7⟩ := sy_hd x hm
  refine ⟨fun r => ?_, ⟨c, u ++ [UInt8.ofNat 32], rfl, h5, h6⟩, ?_⟩
  · rw [hX, List.append_assoc, List.singleton_append]
    have hh : hd (c :: u ++ UInt8.ofNat 32 :: r) = hd (c :: u) := rfl
    unfold tokT
    rw [hh, if_neg (by rw [h1]; decide), if_neg (by rw [h2]; decide), if_neg h3, hs r]
    simp only [Option.map_some]
    rw [List.take_left' rfl]
    simp
  · rw [hX]
    intro a ha
    rcases List.mem_append.1 ha with ha | ha
    · exact h7 a ha
    · simp at ha; subst ha; decide
/-- What was a token is one again. -/
theorem good_tok {l : List UInt8} {k n : Nat} {x : List UInt8} (h : tokT l = some (k, x, n)) (hs : k = 7 → okStr x) : GoodT k x := by
  unfold tokT at h
  split at h
  · rename_i g
    cases h
    exact good_name g
  · split at h
    · rename_i g
      split at h
      · cases h
      · rename_i hb
        cases h
        exact good_num g (by simpa using hb)
    · split at h
      · cases ht : strT (hd l) (l.drop 1) with
        | none => rw [ht] at h; cases h
        | some y => rw [ht] at h; cases h; exact good_str (hs rfl)
      · cases ht : symN l with
        | none => rw [ht] at h; cases h
        | some y => rw [ht] at h; cases h; exact good_sym ht
end Can
end Go.Proofs.Ytmglmoehlegojaa
