/- Canonical runs: what a loop's body leaves alone; lists that grow. Over any program. -/
import Derived.Test.YtmpojphjongdcaaCanZ
namespace Go.Proofs.Ytmpojphjongdcaa
namespace Can
open Go Go.RowKit
set_option linter.unusedSimpArgs false
set_option linter.unusedVariables false
variable {T : Tbl}
/-- The temporaries that a code may write. -/
def wrI (its : List Item) : List Nat := its.filterMap (·.dst)
def wrR : RCode → List Nat
  | .reg its => wrI its
  | .drw d => wrI d.its
  | .seq a b => wrR a ++ wrR b
  | .cond _ a b => wrR a ++ wrR b
  | .block _ c => wrR c
  | .loop c => wrR c
  | _ => []
/-- Not written. -/
def nw (c : RCode) (t : Nat) : Bool := !(wrR c).elem t
theorem stepI_keep {h : Hd} {it : Item} {fr fr' : Fr} {H H' : CH} (hs : stepI h it fr H = some (fr', H')) {t : Nat} (ht : it.dst ≠ some t) : fr' t = fr t := by
  have hp : ∀ v, putF fr it.dst v t = fr t := fun v => by
    cases hd : it.dst with
    | none => rfl
    | some d => simp only [putF]; rw [if_neg]; rintro rfl; exact ht hd
  simp only [stepI] at hs
  split at hs
  · cases hr : rop h fr H it.op with
    | none => rw [hr] at hs; cases hs
    | some q => rw [hr] at hs; cases hs; exact hp _
  · cases hs; exact hp _
  · cases hs
theorem runI_keep {h : Hd} {t : Nat} : ∀ {its : List Item} {fr fr' : Fr} {H H' : CH}, runI h its fr H = some (fr', H') → t ∉ wrI its → fr' t = fr t
  | [], fr, fr', H, H', hr, ht => by simp only [runI, Option.some.injEq, Prod.mk.injEq] at hr; rw [hr.1]
  | it :: its, fr, fr', H, H', hr, ht => by
    simp only [runI] at hr
    cases hs : stepI h it fr H with
    | none => rw [hs] at hr; cases hr
    | some q =>
      rw [hs] at hr
      have h1 : it.dst ≠ some t := fun e => ht (by simp [wrI, e])
      have h2 : t ∉ wrI its := fun hm => ht (by
        simp only [wrI, List.mem_filterMap] at hm ⊢
        obtain ⟨x, hx, hd⟩ := hm
        exact ⟨x, List.mem_cons_of_mem _ hx, hd⟩)
      exact (runI_keep hr h2).trans (stepI_keep hs h1)
theorem loopN_keep {t : Nat} {f : Fr → CH → Res} (hf : ∀ fr H x fr' H', f fr H = some (x, fr', H') → fr' t = fr t) : ∀ {n : Nat} {fr fr' : Fr} {H H' : CH} {x : CExit}, loopN n f fr H = some (x, fr', H') → fr' t = fr t
  | 0, fr, fr', H, H', x, hr => by simp [loopN] at hr
  | n + 1, fr, fr', H, H', x, hr => by
    simp only [loopN] at hr
    cases hq : f fr H with
    | none => rw [hq] at hr; cases hr
    | some q =>
      obtain ⟨y, fr1, H1⟩ := q
      rw [hq] at hr
      have h1 := hf _ _ _ _ _ hq
      cases y with
      | normal => exact (loopN_keep hf hr).trans h1
      | exit i => cases hr; exact h1
      | ret => cases hr; exact h1
theorem evR_keep {h : Hd} {n t : Nat} : ∀ {c : RCode} {fr fr' : Fr} {H H' : CH} {x : CExit}, evR h n c fr H = some (x, fr', H') → t ∉ wrR c → fr' t = fr t := by
  intro c
  induction c with
  | skip => intro fr fr' H H' x hr ht; simp only [evR, Option.some.injEq, Prod.mk.injEq] at hr; rw [hr.2.1]
  | reg its =>
    intro fr fr' H H' x hr ht
    simp only [evR] at hr
    cases hi : runI h its fr H with
    | none => rw [hi] at hr; cases hr
    | some q => rw [hi] at hr; cases hr; exact runI_keep hi ht
  | drw d =>
    intro fr fr' H H' x hr ht
    simp only [evR, evD] at hr
    cases hi : runD h d.its fr H with
    | none => rw [hi] at hr; cases hr
    | some q =>
      obtain ⟨f1, K, l⟩ := q
      rw [hi] at hr
      simp only at hr
      split at hr
      · cases hr
        exact runD_keep (fun y hy e => ht (by simp only [wrR, wrI, List.mem_filterMap]; exact ⟨y, hy, e⟩)) hi
      · cases hr
  | seq a b iha ihb =>
    intro fr fr' H H' x hr ht
    simp only [wrR, List.mem_append, not_or] at ht
    simp only [evR] at hr
    cases ha : evR h n a fr H with
    | none => rw [ha] at hr; cases hr
    | some q =>
      obtain ⟨y, fr1, H1⟩ := q
      rw [ha] at hr
      have h1 := iha ha ht.1
      cases y with
      | normal => exact (ihb hr ht.2).trans h1
      | exit i => cases hr; exact h1
      | ret => cases hr; exact h1
  | cond c a b iha ihb =>
    intro fr fr' H H' x hr ht
    simp only [wrR, List.mem_append, not_or] at ht
    simp only [evR] at hr
    split at hr
    · exact iha hr ht.1
    · exact ihb hr ht.2
    · cases hr
  | block id c ih =>
    intro fr fr' H H' x hr ht
    simp only [evR] at hr
    cases ha : evR h n c fr H with
    | none => rw [ha] at hr; cases hr
    | some q =>
      obtain ⟨y, fr1, H1⟩ := q
      rw [ha] at hr
      have h1 := ih ha ht
      cases y with
      | normal => cases hr; exact h1
      | exit i => simp only at hr; split at hr <;> (cases hr; exact h1)
      | ret => cases hr; exact h1
  | loop c ih =>
    intro fr fr' H H' x hr ht
    simp only [evR] at hr
    exact loopN_keep (fun fr H x fr' H' hq => ih hq ht) hr
  | exit id => intro fr fr' H H' x hr ht; simp only [evR, Option.some.injEq, Prod.mk.injEq] at hr; rw [hr.2.1]
  | ret => intro fr fr' H H' x hr ht; simp only [evR, Option.some.injEq, Prod.mk.injEq] at hr; rw [hr.2.1]
  | rangeF g key =>
    intro fr fr' H H' x hr ht
    simp only [evR] at hr
    split at hr
    · split at hr
      · split at hr
        · split at hr
          · cases hr
          · cases hr; rfl
        · cases hr
      · cases hr
    · cases hr
theorem wpR_keep {c : RCode} {fr : Fr} {H : CH} {Q : CExit → Fr → CH → Prop} (h : WpR T c fr H Q) : WpR T c fr H fun x fr' H' => Q x fr' H' ∧ ∀ t, nw c t = true → fr' t = fr t := by
  obtain ⟨n, x, fr', H', h1, h2⟩ := h
  exact ⟨n, x, fr', H', h1, h2, fun t ht => evR_keep h1 (by simpa [nw] using ht)⟩
/-- A loop by what it carries; what its body does not write is as it was ahead of it. -/
theorem loop_w {c : RCode} {Q : CExit → Fr → CH → Prop} (I : Nat → Fr → CH → Prop) {n : Nat} {fr : Fr} {H : CH} (h0 : I n fr H) (step : ∀ n fr1 H1, I n fr1 H1 → (∀ t, nw c t = true → fr1 t = fr t) → WpR T c fr1 H1 (LoopI I n Q)) : WpR T (.loop c) fr H Q := by
  refine loop_inv (fun m fr1 H1 => I m fr1 H1 ∧ ∀ t, nw c t = true → fr1 t = fr t) ?_ ⟨h0, fun _ _ => rfl⟩
  rintro m fr1 H1 ⟨hi, hk⟩
  refine (wpR_keep (step m fr1 H1 hi hk)).mono fun x fr' H' ⟨hq, hk'⟩ => ?_
  cases x with
  | normal => obtain ⟨k, hk1, hk2⟩ := hq; exact ⟨k, hk1, hk2, fun t ht => (hk' t ht).trans (hk t ht)⟩
  | exit i => exact hq
  | ret => exact hq

/-! Lists that grow. -/
/-- append, by the value that it grows. -/
def appV (e sz bytes : Nat) (s : Value) (xs : List Value) (m : Nat) (H : CH) : Option (Value × CH) := match s with
  | .slice none 0 0 => if m = 0 then some (.slice none 0 0, H) else if xs.all isCell = true ∧ m * bytes ≤ 140737488355328 ∧ m ≤ maxLen then some (.slice (some ⟨H.nx, 0, none⟩) m m, H.new (.cells xs e .gr)) else none
  | .slice (some ⟨a, b, some 0⟩) 0 0 => if m = 0 then some (.slice (some ⟨a, b, some 0⟩) 0 0, H) else if xs.all isCell = true ∧ m * bytes ≤ 140737488355328 ∧ m ≤ maxLen then some (.slice (some ⟨H.nx, 0, none⟩) m m, H.new (.cells xs e .gr)) else none
  | .slice (some ⟨l, o, none⟩) n c => match H.ob l with
    | .cells cs e' k =>
      if m = 0 then some (.slice (some ⟨l, o, none⟩) n c, H)
      else if o = 0 ∧ e' = e ∧ k.isRo = false ∧ n * sz ≤ cs.length ∧ xs.all isCell = true ∧ (n + m) * bytes ≤ 140737488355328 ∧ n + m ≤ maxLen then
        some (.slice (some ⟨H.nx, 0, none⟩) (n + m) (n + m), appH (k.isEx && decide (c < n + m)) H l (.cells (cs.take (n * sz) ++ xs) e .gr))
      else none
    | _ => none
  | _ => none
theorem appV_n {e sz bytes m : Nat} {xs : List Value} {H : CH} : appV e sz bytes (.slice none 0 0) xs m H = if m = 0 then some (.slice none 0 0, H) else if xs.all isCell = true ∧ m * bytes ≤ 140737488355328 ∧ m ≤ maxLen then some (.slice (some ⟨H.nx, 0, none⟩) m m, H.new (.cells xs e .gr)) else none := rfl
theorem appV_v {e sz bytes m a b : Nat} {xs : List Value} {H : CH} : appV e sz bytes (.slice (some ⟨a, b, some 0⟩) 0 0) xs m H = if m = 0 then some (.slice (some ⟨a, b, some 0⟩) 0 0, H) else if xs.all isCell = true ∧ m * bytes ≤ 140737488355328 ∧ m ≤ maxLen then some (.slice (some ⟨H.nx, 0, none⟩) m m, H.new (.cells xs e .gr)) else none := rfl
def appR (q : CObj) (e sz bytes l o n c : Nat) (xs : List Value) (m : Nat) (H : CH) : Option (Value × CH) := match q with
  | .cells cs e' k =>
    if m = 0 then some (.slice (some ⟨l, o, none⟩) n c, H)
    else if o = 0 ∧ e' = e ∧ k.isRo = false ∧ n * sz ≤ cs.length ∧ xs.all isCell = true ∧ (n + m) * bytes ≤ 140737488355328 ∧ n + m ≤ maxLen then
      some (.slice (some ⟨H.nx, 0, none⟩) (n + m) (n + m), appH (k.isEx && decide (c < n + m)) H l (.cells (cs.take (n * sz) ++ xs) e .gr))
    else none
  | _ => none
theorem appR_c {cs : List Value} {e' : Nat} {k : Kd} {e sz bytes l o n c m : Nat} {xs : List Value} {H : CH} : appR (.cells cs e' k) e sz bytes l o n c xs m H = if m = 0 then some (.slice (some ⟨l, o, none⟩) n c, H)
    else if o = 0 ∧ e' = e ∧ k.isRo = false ∧ n * sz ≤ cs.length ∧ xs.all isCell = true ∧ (n + m) * bytes ≤ 140737488355328 ∧ n + m ≤ maxLen then
      some (.slice (some ⟨H.nx, 0, none⟩) (n + m) (n + m), appH (k.isEx && decide (c < n + m)) H l (.cells (cs.take (n * sz) ++ xs) e .gr))
    else none := rfl
theorem appV_r {e sz bytes l o n c m : Nat} {xs : List Value} {H : CH} : appV e sz bytes (.slice (some ⟨l, o, none⟩) n c) xs m H = appR (H.ob l) e sz bytes l o n c xs m H := by
  simp only [appV, appR]
def appS (o : Option (List Value × Nat)) (e sz bytes : Nat) (s : Value) (H : CH) : Option (Value × CH) := match o with
  | some (xs, m) => appV e sz bytes s xs m H
  | none => none
theorem appS_some {xs : List Value} {m e sz bytes : Nat} {s : Value} {H : CH} : appS (some (xs, m)) e sz bytes s H = appV e sz bytes s xs m H := rfl
theorem w_app {H : CH} {ev : Operand → Value} {e sz bytes : Nat} {s x : Operand} : wop H ev (.app e sz bytes s x) = appS (srcCells H sz (ev x)) e sz bytes (ev s) H := by
  simp only [wop]
  cases srcCells H sz (ev x) with
  | none => rfl
  | some q => rfl
theorem zeros_two {z : Value} : zeros [z] 2 = [z, z] := by simp [zeros, List.range, List.range.loop, Nat.mod_one]
theorem zeros_three {z : Value} : zeros [z] 3 = [z, z, z] := by simp [zeros, List.range, List.range.loop, Nat.mod_one]
def srcR (o : CObj) (off m sz : Nat) : Option (List Value × Nat) := match o with
  | .cells cs _ _ => if off + m * sz ≤ cs.length then some ((cs.drop off).take (m * sz), m) else none
  | _ => none
theorem srcR_c {cs : List Value} {e off m sz : Nat} {k : Kd} : srcR (.cells cs e k) off m sz = if off + m * sz ≤ cs.length then some ((cs.drop off).take (m * sz), m) else none := rfl
theorem src_n {H : CH} {sz : Nat} : srcCells H sz (.slice none 0 0) = some ([], 0) := rfl
theorem src_v {H : CH} {sz a b k : Nat} : srcCells H sz (.slice (some ⟨a, b, some k⟩) 0 0) = some ([], 0) := rfl
theorem src_r {H : CH} {sz l o m c : Nat} : srcCells H sz (.slice (some ⟨l, o, none⟩) m c) = if m = 0 then some ([], 0) else srcR (H.ob l) o m sz := by
  simp only [srcCells, srcR]
  split
  · rfl
  · cases H.ob l <;> rfl
theorem src_s {H : CH} {sz : Nat} {s : ByteArray} : srcCells H sz (.string s) = if sz = 1 then some (s.data.toList.map fun b => .int .u8 b.toNat, s.size) else none := rfl
/-- A list in own memory that may grow: nil, or a row of its own behind A. -/
def Grw {α : Type} (A : CH) (e sz : Nat) (f : α → List Value) (K : CH) (v : Value) (xs : List α) : Prop :=
  (xs = [] ∧ v = .slice none 0 0) ∨ ∃ b kd, v = .slice (some ⟨b, 0, none⟩) xs.length xs.length ∧ A.nx ≤ b ∧ b < K.nx ∧ K.ob b = .cells (xs.flatMap f) e kd ∧ kd.isRo = false
theorem Grw.nil {α : Type} {A : CH} {e sz : Nat} {f : α → List Value} {K : CH} : Grw A e sz f K (.slice none 0 0) [] := .inl ⟨rfl, rfl⟩
theorem flat_len {α : Type} {f : α → List Value} {sz : Nat} (hf : ∀ x, (f x).length = sz) : ∀ xs : List α, (xs.flatMap f).length = xs.length * sz
  | [] => by simp
  | x :: xs => by simp only [List.flatMap_cons, List.length_append, hf, flat_len hf xs, List.length_cons, Nat.succ_mul]; omega
/-- The memory stays but for the row that grew. -/
theorem grw_app {α : Type} {A K : CH} {e sz bytes : Nat} {f : α → List Value} (hf : ∀ x, (f x).length = sz ∧ (f x).all isCell = true) {v : Value} {xs ys : List α} (hg : Grw A e sz f K v xs) (hA : HExt A K) (hb : (xs.length + ys.length) * bytes ≤ 140737488355328) (hm : xs.length + ys.length ≤ 9223372036854775807) :
    ∃ v' K', appV e sz bytes v (ys.flatMap f) ys.length K = some (v', K') ∧ Grw A e sz f K' v' (xs ++ ys) ∧ HExt A K' ∧ K.nx ≤ K'.nx ∧ ∀ l, l < K.nx → (∀ o n c, v ≠ .slice (some ⟨l, o, none⟩) n c) → K'.ob l = K.ob l := by
  have hall : (ys.flatMap f).all isCell = true := by
    rw [List.all_eq_true]; intro x hx
    obtain ⟨y, _, hy⟩ := List.mem_flatMap.1 hx
    exact List.all_eq_true.1 (hf y).2 x hy
  rcases hg with ⟨rfl, rfl⟩ | ⟨b, kd, rfl, h1, h2, h3, hkd⟩
  · by_cases h0 : ys.length = 0
    · have : ys = [] := List.length_eq_zero_iff.1 h0
      subst this
      exact ⟨_, K, by simp [appV], .inl ⟨rfl, rfl⟩, hA, Nat.le_refl _, fun _ _ _ => rfl⟩
    · refine ⟨_, _, by simp only [appV, h0, if_false]; rw [if_pos ⟨hall, by simpa using hb, by rw [maxLen_eq]; simpa using hm⟩], .inr ⟨K.nx, .gr, by simp, hA.nx, Nat.lt_succ_self _, by simp [new_get], rfl⟩, hA.new _, Nat.le_succ _, fun l hl _ => by rw [new_get, if_neg (by omega)]⟩
  · by_cases h0 : ys.length = 0
    · have : ys = [] := List.length_eq_zero_iff.1 h0
      subst this
      exact ⟨.slice (some ⟨b, 0, none⟩) xs.length xs.length, K, by simp [appV, h3], .inr ⟨b, kd, by simp, h1, h2, by simpa using h3, hkd⟩, hA, Nat.le_refl _, fun _ _ _ => rfl⟩
    · have hlen : (xs.flatMap f).length = xs.length * sz := flat_len (fun x => (hf x).1) xs
      have hnx : ∀ o, (appH (kd.isEx && decide (xs.length < xs.length + ys.length)) K b o).nx = K.nx + 1 := fun o => by unfold appH; split <;> rfl
      have hat : ∀ o, (appH (kd.isEx && decide (xs.length < xs.length + ys.length)) K b o).ob K.nx = o := fun o => by
        unfold appH; split <;> (simp only [CH.new, CH.set]; simp)
      have hot : ∀ o l, l < K.nx → l ≠ b → (appH (kd.isEx && decide (xs.length < xs.length + ys.length)) K b o).ob l = K.ob l := fun o l hl hb => by
        unfold appH
        split
        · rw [new_get, if_neg (by omega)]
        · rw [new_get, if_neg (by show l ≠ K.nx; omega), set_get, if_neg hb]
      refine ⟨_, _, by simp only [appV, h3, h0, if_false]; rw [if_pos ⟨trivial, trivial, hkd, by rw [hlen]; exact Nat.le_refl _, hall, hb, by rw [maxLen_eq]; exact hm⟩], .inr ⟨K.nx, .gr, by simp, hA.nx, ?_, ?_, rfl⟩, ?_, ?_, fun l hl hne => ?_⟩
      · rw [hnx]; exact Nat.lt_succ_self _
      · rw [hat, ← hlen, List.take_length, List.flatMap_append]
      · refine ⟨by rw [hnx]; exact Nat.le_succ_of_le hA.nx, fun l hl => ?_⟩
        rw [hot _ l (Nat.lt_of_lt_of_le hl hA.nx) (by omega)]
        exact hA.ob l hl
      · rw [hnx]; exact Nat.le_succ _
      · refine hot _ l hl ?_
        rintro rfl
        exact hne _ _ _ rfl
theorem Grw.ext {α : Type} {A : CH} {e sz : Nat} {f : α → List Value} {K K' : CH} {v : Value} {xs : List α} (h : Grw A e sz f K v xs) (hx : HExt K K') : Grw A e sz f K' v xs := by
  rcases h with h | ⟨b, kd, h0, h1, h2, h3, h4⟩
  · exact .inl h
  · exact .inr ⟨b, kd, h0, h1, Nat.lt_of_lt_of_le h2 hx.nx, (hx.ob b h2).trans h3, h4⟩
theorem Grw.low {α : Type} {A A' : CH} {e sz : Nat} {f : α → List Value} {K : CH} {v : Value} {xs : List α} (h : Grw A e sz f K v xs) (hx : A'.nx ≤ A.nx) : Grw A' e sz f K v xs := by
  rcases h with h | ⟨b, kd, h0, h1, h2, h3, h4⟩
  · exact .inl h
  · exact .inr ⟨b, kd, h0, Nat.le_trans hx h1, h2, h3, h4⟩
/-- An append, where the run stands at it. -/
theorem optW_app {α : Type} {A K : CH} {e sz bytes : Nat} {f : α → List Value} (hf : ∀ x, (f x).length = sz ∧ (f x).all isCell = true) {v : Value} {xs ys : List α} (hg : Grw A e sz f K v xs) (hA : HExt A K) (hb : (xs.length + ys.length) * bytes ≤ 140737488355328) (hm : xs.length + ys.length ≤ 9223372036854775807) {us : List Value} {m : Nat} (hu : us = ys.flatMap f) (hl : m = ys.length)
    {Q : Value → CH → Prop} (k : ∀ v' K', Grw A e sz f K' v' (xs ++ ys) → HExt A K' → K.nx ≤ K'.nx → (∀ l, l < K.nx → (∀ o n c, v ≠ .slice (some ⟨l, o, none⟩) n c) → K'.ob l = K.ob l) → Q v' K') : optW (appV e sz bytes v us m K) Q := by
  subst hu hl
  obtain ⟨v', K', h1, h2, h3, h4, h5⟩ := grw_app hf hg hA hb hm
  rw [h1]
  exact k v' K' h2 h3 h4 h5
def ints (k : IntKind) : Int → List Value := fun x => [.int k x]
theorem ints_ok (k : IntKind) : ∀ x, (ints k x).length = 1 ∧ (ints k x).all isCell = true := fun x => ⟨rfl, rfl⟩
theorem flat_ints (k : IntKind) (xs : List Int) : xs.flatMap (ints k) = xs.map (.int k) := by
  induction xs with
  | nil => rfl
  | cons x xs ih => simp only [List.flatMap_cons, ih, ints, List.map_cons, List.cons_append, List.nil_append]
/-- What has grown reads as a list. -/
theorem Grw.sl {A : CH} {e : Nat} {k : IntKind} {K : CH} {v : Value} {xs : List Int} (h : Grw A e 1 (ints k) K v xs) (hm : xs.length ≤ 9223372036854775807) (hw : ∀ x ∈ xs, (Lit.int k x).wf = true) : ∃ q c, v = .slice q xs.length c ∧ SlAt 1 (CInt k) K q c xs := by
  rcases h with ⟨rfl, rfl⟩ | ⟨b, kd, rfl, h1, h2, h3, h4⟩
  · exact ⟨none, 0, rfl, .inl ⟨rfl, rfl, .inl rfl⟩⟩
  · refine ⟨_, _, rfl, .inr ⟨b, 0, _, _, _, rfl, h2, Nat.le_refl _, by rw [maxLen_eq]; exact hm, h3, by simp [flat_ints], fun i hi => ⟨?_, hw _ (List.getElem_mem hi)⟩⟩⟩
    rw [flat_ints, Nat.zero_add, Nat.mul_one, ← List.map_drop, ← List.map_take, List.drop_eq_getElem_cons hi]
    rfl
/-- The cells of a list of integers, as what is appended. -/
theorem src_ints {k : IntKind} {H : CH} {q : Option Addr} {c : Nat} {xs : List Int} (h : SlAt 1 (CInt k) H q c xs) : srcCells H 1 (.slice q xs.length c) = some (xs.flatMap (ints k), xs.length) := by
  rw [flat_ints]
  rcases h with ⟨rfl, rfl, rfl | rfl | rfl⟩ | ⟨l, o, os, e, kd, rfl, hl, hc, hm, hob, hol, hR⟩
  · rfl
  · rfl
  · rfl
  · by_cases h0 : xs.length = 0
    · have : xs = [] := List.length_eq_zero_iff.1 h0
      subst this
      simp [srcCells]
    · simp only [srcCells, if_neg h0, hob]
      rw [if_pos hol]
      congr 2
      apply List.ext_getElem
      · simp; omega
      · intro i h1 h2
        have hi : i < xs.length := by simpa using h2
        have h3 := (hR i hi).1
        have h4 : ((os.drop (o + i * 1)).take 1)[0]? = some (.int k xs[i]) := by rw [h3]; rfl
        rw [List.getElem?_take_of_lt (by omega), List.getElem?_drop] at h4
        have h5 : os[o + i]? = some (.int k xs[i]) := by simpa using h4
        rw [List.getElem_take, List.getElem_drop, List.getElem_map]
        rw [List.getElem?_eq_some_iff] at h5
        obtain ⟨_, h6⟩ := h5
        exact h6
end Can
end Go.Proofs.Ytmpojphjongdcaa
