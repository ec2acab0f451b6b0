/- Parse, the program: its rules, as runs over trees. (Printed by tools/genpw.py.). Parse, the program: its rules, as runs over trees. (Printed by tools/genpw.py.). Parse, the program: its rules, as runs over trees. (Printed by tools/genpw.py.). Parse, the program: its rules, as runs over trees. (Printed by tools/genpw.py.). Parse, the program: its rules, as runs over trees. (Printed by tools/genpw.py.). Parse, the program: all its rules, along the grammar. (Printed by tools/genpw.py.). -/
import Derived.Test.YtnkfdkfmdeibfaaZk
import Derived.Test.YtnkfdkfmdeibfaaZl
section
namespace Go.Proofs.Ytnkfdkfmdeibfaa
namespace Can
open Go Go.RowKit
set_option linter.unusedSimpArgs false
set_option linter.unusedVariables false
set_option maxRecDepth 4000
attribute [local irreducible] TC isT nowT begT placeN
section
variable {Z : TP} {X : Pan} {W : Int → Value} {ts : List PT} {sl : Sl} {f : Nat}
set_option maxHeartbeats 4000000 in
theorem pw_names (C : PCtx Z X W ts sl) (ih : ∀ g, g ≤ f → PAll Z X W ts sl g) : ∀ (k : Nat) (ln : Int), PC Z X W ts sl (f + 1) (.names k ln []) 42 [.ptr 0 0, rS (.int .i64 (k : Nat)), rS (.int .i64 ln)] ans1 := by
  intro k ln  i Q R E P hi hG hE hQ
  have ihf := ih f (Nat.le_refl f)
  have hln := C.len
  have hG0 := hG
  simp only [gr] at hG
  refine tc_rG dt_ok (by rfl) (by kernel_rfl) ?_
  conv in (rF _ _).body => reduce
  conv in (rF _ _).res => reduce
  conv => whnf
  repeat' first
    | (refine has_st C hG (by first | decide | exact cl_ne) (by omega) (fun hl hG => ?_) (fun hG => ?_) <;> (conv => whnf))
    | (refine now_tc C (by omega) ?_; (conv => whnf))
    | (refine want_st C hG (by first | decide | exact cl_ne) (by omega) (by intro e he; first | exact hE e he | exact ⟨True.intro, hE e he⟩) ?_; intro hl hG; (conv => whnf))
    | (refine is_st C hG (by first | decide | exact cl_ne) (by omega) (fun hb hl hG => ?_) (fun hb hG => ?_) <;> (conv => whnf))
    | (refine wantK_st C hG (by decide) (by omega) (by intro e he; first | exact hE e he | exact ⟨True.intro, hE e he⟩) ?_; intro hl hG; (conv => whnf))
    | (refine begins_st C hG (by omega) (fun hG => ?_) (fun hG => ?_) <;> (conv => whnf))
    | (refine kind_st C hG (by decide) (by omega) (fun hl hG => ?_) (fun hG => ?_) <;> (conv => whnf))
    | (refine single_st hG (fun hG => ?_) (fun hG => ?_) <;> (conv => whnf))
    | (refine place_st hG (fun hG => ?_) (fun hG => ?_) <;> (conv => whnf))
    | (refine operator_st C hG (by omega) (by intro e he; first | exact hE e he | exact ⟨True.intro, hE e he⟩) (fun hG => ?_) (fun op1 j1 hj0 hj1 hG => ?_) <;> (conv => whnf))
    | (refine augment_st C hG (by omega) (fun ha hl hG => ?_) (fun hG => ?_) <;> (conv => whnf))
    | (intro (hmx : _ ≤ maxLen); (conv => whnf))
    | (refine is_stf C hG (by first | decide | exact cl_ne) (by omega) (fun hG => ?_) (fun hG => ?_) <;> (conv => whnf))
    | (refine want_kn C (by decide) (by omega) hb ?_; intro hl; (conv => whnf))
    | (refine ⟨rfl, ?_⟩; (conv => whnf))
    | (refine ⟨bdA (by simp only [List.length_append, List.length_cons, List.length_nil, ndsS_len]; omega), ?_⟩; (conv => whnf))
    | exact hQ _ _ hG (by omega)
    | (refine fail_st C (by omega) hG (by intro e he; first | exact hE e he | exact ⟨True.intro, hE e he⟩))
    | (refine tc_self (rd_wr C hl) ?_)
    | (refine ifT_c (fun h => by exfalso; simp at h; omega) (fun h => ?_); (conv => whnf))
    | (refine ifT_c (fun h => ?_) (fun h => by exfalso; simp at h; omega); (conv => whnf))
    | (refine q_eq ?_ ?_ (hQ _ _ hG (by omega)) <;> first | rfl | exact sn_agg rfl | exact sn_row rfl | exact rd_wr C hl)
  refine loop_0 (fun m s => ∃ acc j c, AccV acc c ∧ s = ⟨1, [oR sl j, oN nzC, oN (nC k ln [] 0 c)]⟩ ∧ j ≤ ts.length ∧ m ≤ f + 1 ∧ 2 * acc.length ≤ j ∧ Gd E P (gr ts m (.names k ln acc) j)) (f + 1) [99] rfl ⟨[], _, _, .inl ⟨rfl, rfl⟩, rfl, by omega, Nat.le_refl _, by simp only [List.length_nil]; omega, hG0⟩ ?_
  rintro m f1 s ⟨acc, j, c, hA, rfl, hj, hmf, hb2, hG⟩
  rcases m with _ | m
  · exact hG.elim
  simp only [gr] at hG
  rcases hA with ⟨rfl, rfl⟩ | ⟨hne, rfl⟩
  all_goals
    (conv => whnf)
    repeat' first
        | (refine has_st C hG (by first | decide | exact cl_ne) (by omega) (fun hl hG => ?_) (fun hG => ?_) <;> (conv => whnf))
        | (refine now_tc C (by omega) ?_; (conv => whnf))
        | (refine want_st C hG (by first | decide | exact cl_ne) (by omega) (by intro e he; first | exact hE e he | exact ⟨True.intro, hE e he⟩) ?_; intro hl hG; (conv => whnf))
        | (refine is_st C hG (by first | decide | exact cl_ne) (by omega) (fun hb hl hG => ?_) (fun hb hG => ?_) <;> (conv => whnf))
        | (refine wantK_st C hG (by decide) (by omega) (by intro e he; first | exact hE e he | exact ⟨True.intro, hE e he⟩) ?_; intro hl hG; (conv => whnf))
        | (refine begins_st C hG (by omega) (fun hG => ?_) (fun hG => ?_) <;> (conv => whnf))
        | (refine kind_st C hG (by decide) (by omega) (fun hl hG => ?_) (fun hG => ?_) <;> (conv => whnf))
        | (refine single_st hG (fun hG => ?_) (fun hG => ?_) <;> (conv => whnf))
        | (refine place_st hG (fun hG => ?_) (fun hG => ?_) <;> (conv => whnf))
        | (refine operator_st C hG (by omega) (by intro e he; first | exact hE e he | exact ⟨True.intro, hE e he⟩) (fun hG => ?_) (fun op1 j1 hj0 hj1 hG => ?_) <;> (conv => whnf))
        | (refine augment_st C hG (by omega) (fun ha hl hG => ?_) (fun hG => ?_) <;> (conv => whnf))
        | (intro (hmx : _ ≤ maxLen); (conv => whnf))
        | (refine is_stf C hG (by first | decide | exact cl_ne) (by omega) (fun hG => ?_) (fun hG => ?_) <;> (conv => whnf))
        | (refine want_kn C (by decide) (by omega) hb ?_; intro hl; (conv => whnf))
        | exact ⟨m, [2], by omega, rfl, _, _, _, accV_app rfl, rfl, by omega, by omega, (by simp only [List.length_append, List.length_cons, List.length_nil]; omega), hG⟩
        | (refine ⟨rfl, ?_⟩; (conv => whnf))
        | (refine ⟨bdA (by simp only [List.length_append, List.length_cons, List.length_nil, ndsS_len]; omega), ?_⟩; (conv => whnf))
        | exact hQ _ _ hG (by omega)
        | (refine fail_st C (by omega) hG (by intro e he; first | exact hE e he | exact ⟨True.intro, hE e he⟩))
        | (refine tc_self (rd_wr C hl) ?_)
        | (refine ifT_c (fun h => by exfalso; simp at h; omega) (fun h => ?_); (conv => whnf))
        | (refine ifT_c (fun h => ?_) (fun h => by exfalso; simp at h; omega); (conv => whnf))
        | (refine q_eq ?_ ?_ (hQ _ _ hG (by omega)) <;> first | rfl | exact sn_agg rfl | exact sn_row rfl | exact rd_wr C hl)
set_option maxHeartbeats 4000000 in
theorem pw_params (C : PCtx Z X W ts sl) (ih : ∀ g, g ≤ f → PAll Z X W ts sl g) : ∀ (cl : List UInt8) (ln : Int), cl ≠ [] → PC Z X W ts sl (f + 1) (.params cl ln []) 28 [.ptr 0 0, rS (.int .i64 ln), rS (.string ⟨⟨cl⟩⟩)] ans1 := by
  intro cl ln cl_ne i Q R E P hi hG hE hQ
  have ihf := ih f (Nat.le_refl f)
  have hln := C.len
  have hG0 := hG
  simp only [gr] at hG
  refine tc_rG dt_ok (by rfl) (by kernel_rfl) ?_
  conv in (rF _ _).body => reduce
  conv in (rF _ _).res => reduce
  conv => whnf
  repeat' first
    | (refine has_st C hG (by first | decide | exact cl_ne) (by omega) (fun hl hG => ?_) (fun hG => ?_) <;> (conv => whnf))
    | (refine now_tc C (by omega) ?_; (conv => whnf))
    | (refine want_st C hG (by first | decide | exact cl_ne) (by omega) (by intro e he; first | exact hE e he | exact ⟨True.intro, hE e he⟩) ?_; intro hl hG; (conv => whnf))
    | (refine is_st C hG (by first | decide | exact cl_ne) (by omega) (fun hb hl hG => ?_) (fun hb hG => ?_) <;> (conv => whnf))
    | (refine wantK_st C hG (by decide) (by omega) (by intro e he; first | exact hE e he | exact ⟨True.intro, hE e he⟩) ?_; intro hl hG; (conv => whnf))
    | (refine begins_st C hG (by omega) (fun hG => ?_) (fun hG => ?_) <;> (conv => whnf))
    | (refine kind_st C hG (by decide) (by omega) (fun hl hG => ?_) (fun hG => ?_) <;> (conv => whnf))
    | (refine single_st hG (fun hG => ?_) (fun hG => ?_) <;> (conv => whnf))
    | (refine place_st hG (fun hG => ?_) (fun hG => ?_) <;> (conv => whnf))
    | (refine operator_st C hG (by omega) (by intro e he; first | exact hE e he | exact ⟨True.intro, hE e he⟩) (fun hG => ?_) (fun op1 j1 hj0 hj1 hG => ?_) <;> (conv => whnf))
    | (refine augment_st C hG (by omega) (fun ha hl hG => ?_) (fun hG => ?_) <;> (conv => whnf))
    | (intro (hmx : _ ≤ maxLen); (conv => whnf))
    | (refine is_stf C hG (by first | decide | exact cl_ne) (by omega) (fun hG => ?_) (fun hG => ?_) <;> (conv => whnf))
    | (refine want_kn C (by decide) (by omega) hb ?_; intro hl; (conv => whnf))
    | (refine ⟨rfl, ?_⟩; (conv => whnf))
    | (refine ⟨bdA (by simp only [List.length_append, List.length_cons, List.length_nil, ndsS_len]; omega), ?_⟩; (conv => whnf))
    | exact hQ _ _ hG (by omega)
    | (refine fail_st C (by omega) hG (by intro e he; first | exact hE e he | exact ⟨True.intro, hE e he⟩))
    | (refine tc_self (rd_wr C hl) ?_)
    | (refine ifT_c (fun h => by exfalso; simp at h; omega) (fun h => ?_); (conv => whnf))
    | (refine ifT_c (fun h => ?_) (fun h => by exfalso; simp at h; omega); (conv => whnf))
    | (refine q_eq ?_ ?_ (hQ _ _ hG (by omega)) <;> first | rfl | exact sn_agg rfl | exact sn_row rfl | exact rd_wr C hl)
  refine loop_0 (fun m s => ∃ acc j c, AccV acc c ∧ s = ⟨1, [oR sl j, oN nzC, oN (nC 23 ln [] 0 c)]⟩ ∧ j ≤ ts.length ∧ m ≤ f + 1 ∧ 2 * acc.length ≤ j ∧ Gd E P (gr ts m (.params cl ln acc) j)) (f + 1) [99] rfl ⟨[], _, _, .inl ⟨rfl, rfl⟩, rfl, by omega, Nat.le_refl _, by simp only [List.length_nil]; omega, hG0⟩ ?_
  rintro m f1 s ⟨acc, j, c, hA, rfl, hj, hmf, hb2, hG⟩
  rcases m with _ | m
  · exact hG.elim
  simp only [gr] at hG
  rcases hA with ⟨rfl, rfl⟩ | ⟨hne, rfl⟩
  all_goals
    (conv => whnf)
    repeat' first
        | (refine has_st C hG (by first | decide | exact cl_ne) (by omega) (fun hl hG => ?_) (fun hG => ?_) <;> (conv => whnf))
        | (refine now_tc C (by omega) ?_; (conv => whnf))
        | (refine want_st C hG (by first | decide | exact cl_ne) (by omega) (by intro e he; first | exact hE e he | exact ⟨True.intro, hE e he⟩) ?_; intro hl hG; (conv => whnf))
        | (refine is_st C hG (by first | decide | exact cl_ne) (by omega) (fun hb hl hG => ?_) (fun hb hG => ?_) <;> (conv => whnf))
        | (refine wantK_st C hG (by decide) (by omega) (by intro e he; first | exact hE e he | exact ⟨True.intro, hE e he⟩) ?_; intro hl hG; (conv => whnf))
        | (refine begins_st C hG (by omega) (fun hG => ?_) (fun hG => ?_) <;> (conv => whnf))
        | (refine kind_st C hG (by decide) (by omega) (fun hl hG => ?_) (fun hG => ?_) <;> (conv => whnf))
        | (refine single_st hG (fun hG => ?_) (fun hG => ?_) <;> (conv => whnf))
        | (refine place_st hG (fun hG => ?_) (fun hG => ?_) <;> (conv => whnf))
        | (refine operator_st C hG (by omega) (by intro e he; first | exact hE e he | exact ⟨True.intro, hE e he⟩) (fun hG => ?_) (fun op1 j1 hj0 hj1 hG => ?_) <;> (conv => whnf))
        | (refine augment_st C hG (by omega) (fun ha hl hG => ?_) (fun hG => ?_) <;> (conv => whnf))
        | (intro (hmx : _ ≤ maxLen); (conv => whnf))
        | (refine is_stf C hG (by first | decide | exact cl_ne) (by omega) (fun hG => ?_) (fun hG => ?_) <;> (conv => whnf))
        | (refine want_kn C (by decide) (by omega) hb ?_; intro hl; (conv => whnf))
        | exact ⟨m, [2], by omega, rfl, _, _, _, accV_app rfl, rfl, by omega, by omega, (by simp only [List.length_append, List.length_cons, List.length_nil]; omega), hG⟩
        | (refine ⟨rfl, ?_⟩; (conv => whnf))
        | (refine ⟨bdA (by simp only [List.length_append, List.length_cons, List.length_nil, ndsS_len]; omega), ?_⟩; (conv => whnf))
        | exact hQ _ _ hG (by omega)
        | (refine fail_st C (by omega) hG (by intro e he; first | exact hE e he | exact ⟨True.intro, hE e he⟩))
        | (refine tc_self (rd_wr C hl) ?_)
        | (refine ifT_c (fun h => by exfalso; simp at h; omega) (fun h => ?_); (conv => whnf))
        | (refine ifT_c (fun h => ?_) (fun h => by exfalso; simp at h; omega); (conv => whnf))
        | (refine q_eq ?_ ?_ (hQ _ _ hG (by omega)) <;> first | rfl | exact sn_agg rfl | exact sn_row rfl | exact rd_wr C hl)
set_option maxHeartbeats 4000000 in
theorem pw_row (C : PCtx Z X W ts sl) (ih : ∀ g, g ≤ f → PAll Z X W ts sl g) : ∀ (cl : List UInt8), cl ≠ [] → PC Z X W ts sl (f + 1) (.row cl []) 29 [.ptr 0 0, rS (.string ⟨⟨cl⟩⟩)] ansL := by
  intro cl cl_ne i Q R E P hi hG hE hQ
  have ihf := ih f (Nat.le_refl f)
  have hln := C.len
  have hG0 := hG
  simp only [gr] at hG
  refine tc_rG dt_ok (by rfl) (by kernel_rfl) ?_
  conv in (rF _ _).body => reduce
  conv in (rF _ _).res => reduce
  conv => whnf
  repeat' first
    | (refine has_st C hG (by first | decide | exact cl_ne) (by omega) (fun hl hG => ?_) (fun hG => ?_) <;> (conv => whnf))
    | (refine now_tc C (by omega) ?_; (conv => whnf))
    | (refine want_st C hG (by first | decide | exact cl_ne) (by omega) (by intro e he; first | exact hE e he | exact ⟨True.intro, hE e he⟩) ?_; intro hl hG; (conv => whnf))
    | (refine is_st C hG (by first | decide | exact cl_ne) (by omega) (fun hb hl hG => ?_) (fun hb hG => ?_) <;> (conv => whnf))
    | (refine wantK_st C hG (by decide) (by omega) (by intro e he; first | exact hE e he | exact ⟨True.intro, hE e he⟩) ?_; intro hl hG; (conv => whnf))
    | (refine begins_st C hG (by omega) (fun hG => ?_) (fun hG => ?_) <;> (conv => whnf))
    | (refine kind_st C hG (by decide) (by omega) (fun hl hG => ?_) (fun hG => ?_) <;> (conv => whnf))
    | (refine single_st hG (fun hG => ?_) (fun hG => ?_) <;> (conv => whnf))
    | (refine place_st hG (fun hG => ?_) (fun hG => ?_) <;> (conv => whnf))
    | (refine operator_st C hG (by omega) (by intro e he; first | exact hE e he | exact ⟨True.intro, hE e he⟩) (fun hG => ?_) (fun op1 j1 hj0 hj1 hG => ?_) <;> (conv => whnf))
    | (refine augment_st C hG (by omega) (fun ha hl hG => ?_) (fun hG => ?_) <;> (conv => whnf))
    | (intro (hmx : _ ≤ maxLen); (conv => whnf))
    | (refine is_stf C hG (by first | decide | exact cl_ne) (by omega) (fun hG => ?_) (fun hG => ?_) <;> (conv => whnf))
    | (refine want_kn C (by decide) (by omega) hb ?_; intro hl; (conv => whnf))
    | (refine ⟨rfl, ?_⟩; (conv => whnf))
    | (refine ⟨bdA (by simp only [List.length_append, List.length_cons, List.length_nil, ndsS_len]; omega), ?_⟩; (conv => whnf))
    | exact hQ _ _ hG (by omega)
    | (refine fail_st C (by omega) hG (by intro e he; first | exact hE e he | exact ⟨True.intro, hE e he⟩))
    | (refine tc_self (rd_wr C hl) ?_)
    | (refine ifT_c (fun h => by exfalso; simp at h; omega) (fun h => ?_); (conv => whnf))
    | (refine ifT_c (fun h => ?_) (fun h => by exfalso; simp at h; omega); (conv => whnf))
    | (refine q_eq ?_ ?_ (hQ _ _ hG (by omega)) <;> first | rfl | exact sn_agg rfl | exact sn_row rfl | exact rd_wr C hl)
  refine loop_1 5 (fun m a s => ∃ acc j c, a = .r (.c c) ∧ AccV acc c ∧ s = ⟨1, [oR sl j]⟩ ∧ j ≤ ts.length ∧ m ≤ f + 1 ∧ 2 * acc.length ≤ j ∧ Gd E P (gr ts m (.row cl acc) j)) (f + 1) [99] rfl ⟨[], _, _, rfl, .inl ⟨rfl, rfl⟩, rfl, by omega, Nat.le_refl _, by simp only [List.length_nil]; omega, hG0⟩ ?_
  rintro m a f1 s ⟨acc, j, c, rfl, hA, rfl, hj, hmf, hb2, hG⟩
  rcases m with _ | m
  · exact hG.elim
  have ihm := ih m (by omega)
  simp only [gr] at hG
  rcases hA with ⟨rfl, rfl⟩ | ⟨hne, rfl⟩
  all_goals
    (conv => whnf)
    repeat' first
        | (refine has_st C hG (by first | decide | exact cl_ne) (by omega) (fun hl hG => ?_) (fun hG => ?_) <;> (conv => whnf))
        | (refine now_tc C (by omega) ?_; (conv => whnf))
        | (refine want_st C hG (by first | decide | exact cl_ne) (by omega) (by intro e he; first | exact hE e he | exact ⟨True.intro, hE e he⟩) ?_; intro hl hG; (conv => whnf))
        | (refine is_st C hG (by first | decide | exact cl_ne) (by omega) (fun hb hl hG => ?_) (fun hb hG => ?_) <;> (conv => whnf))
        | (refine wantK_st C hG (by decide) (by omega) (by intro e he; first | exact hE e he | exact ⟨True.intro, hE e he⟩) ?_; intro hl hG; (conv => whnf))
        | (refine begins_st C hG (by omega) (fun hG => ?_) (fun hG => ?_) <;> (conv => whnf))
        | (refine kind_st C hG (by decide) (by omega) (fun hl hG => ?_) (fun hG => ?_) <;> (conv => whnf))
        | (refine rul_st ihm.expr hG (by trivial) rfl (by intro e he; first | exact hE e he | exact ⟨True.intro, hE e he⟩) (by omega) ?_; intro n1 l1 x1 o1 ks1 j1 hp1 hj1 hG; simp only [NT.min] at hp1; (conv => whnf))
        | (refine tal_st ihm.expr hG (by trivial) rfl (by intro e he; first | exact hE e he | exact ⟨True.intro, hE e he⟩) (by omega) ?_; intro n1 l1 x1 o1 ks1 j1 hp1 hj1 hG; simp only [NT.min] at hp1; (conv => whnf))
        | (refine single_st hG (fun hG => ?_) (fun hG => ?_) <;> (conv => whnf))
        | (refine place_st hG (fun hG => ?_) (fun hG => ?_) <;> (conv => whnf))
        | (refine operator_st C hG (by omega) (by intro e he; first | exact hE e he | exact ⟨True.intro, hE e he⟩) (fun hG => ?_) (fun op1 j1 hj0 hj1 hG => ?_) <;> (conv => whnf))
        | (refine augment_st C hG (by omega) (fun ha hl hG => ?_) (fun hG => ?_) <;> (conv => whnf))
        | (intro (hmx : _ ≤ maxLen); (conv => whnf))
        | (refine is_stf C hG (by first | decide | exact cl_ne) (by omega) (fun hG => ?_) (fun hG => ?_) <;> (conv => whnf))
        | (refine want_kn C (by decide) (by omega) hb ?_; intro hl; (conv => whnf))
        | exact ⟨m, [2], by omega, rfl, _, _, _, rfl, accV_app rfl, rfl, by omega, by omega, (by simp only [List.length_append, List.length_cons, List.length_nil]; omega), hG⟩
        | (refine ⟨rfl, ?_⟩; (conv => whnf))
        | (refine ⟨bdA (by simp only [List.length_append, List.length_cons, List.length_nil, ndsS_len]; omega), ?_⟩; (conv => whnf))
        | exact hQ _ _ hG (by omega)
        | (refine fail_st C (by omega) hG (by intro e he; first | exact hE e he | exact ⟨True.intro, hE e he⟩))
        | (refine tc_self (rd_wr C hl) ?_)
        | (refine ifT_c (fun h => by exfalso; simp at h; omega) (fun h => ?_); (conv => whnf))
        | (refine ifT_c (fun h => ?_) (fun h => by exfalso; simp at h; omega); (conv => whnf))
        | (refine q_eq ?_ ?_ (hQ _ _ hG (by omega)) <;> first | rfl | exact sn_agg rfl | exact sn_row rfl | exact rd_wr C hl)
set_option maxHeartbeats 4000000 in
theorem pw_clauses (C : PCtx Z X W ts sl) (ih : ∀ g, g ≤ f → PAll Z X W ts sl g) : PC Z X W ts sl (f + 1) (.clauses []) 74 [.ptr 0 0] ansL := by
  intro   i Q R E P hi hG hE hQ
  have ihf := ih f (Nat.le_refl f)
  have hln := C.len
  have hG0 := hG
  simp only [gr] at hG
  refine tc_rG dt_ok (by rfl) (by kernel_rfl) ?_
  conv in (rF _ _).body => reduce
  conv in (rF _ _).res => reduce
  conv => whnf
  repeat' first
    | (refine has_st C hG (by first | decide | exact cl_ne) (by omega) (fun hl hG => ?_) (fun hG => ?_) <;> (conv => whnf))
    | (refine now_tc C (by omega) ?_; (conv => whnf))
    | (refine want_st C hG (by first | decide | exact cl_ne) (by omega) (by intro e he; first | exact hE e he | exact ⟨True.intro, hE e he⟩) ?_; intro hl hG; (conv => whnf))
    | (refine is_st C hG (by first | decide | exact cl_ne) (by omega) (fun hb hl hG => ?_) (fun hb hG => ?_) <;> (conv => whnf))
    | (refine wantK_st C hG (by decide) (by omega) (by intro e he; first | exact hE e he | exact ⟨True.intro, hE e he⟩) ?_; intro hl hG; (conv => whnf))
    | (refine begins_st C hG (by omega) (fun hG => ?_) (fun hG => ?_) <;> (conv => whnf))
    | (refine kind_st C hG (by decide) (by omega) (fun hl hG => ?_) (fun hG => ?_) <;> (conv => whnf))
    | (refine single_st hG (fun hG => ?_) (fun hG => ?_) <;> (conv => whnf))
    | (refine place_st hG (fun hG => ?_) (fun hG => ?_) <;> (conv => whnf))
    | (refine operator_st C hG (by omega) (by intro e he; first | exact hE e he | exact ⟨True.intro, hE e he⟩) (fun hG => ?_) (fun op1 j1 hj0 hj1 hG => ?_) <;> (conv => whnf))
    | (refine augment_st C hG (by omega) (fun ha hl hG => ?_) (fun hG => ?_) <;> (conv => whnf))
    | (intro (hmx : _ ≤ maxLen); (conv => whnf))
    | (refine is_stf C hG (by first | decide | exact cl_ne) (by omega) (fun hG => ?_) (fun hG => ?_) <;> (conv => whnf))
    | (refine want_kn C (by decide) (by omega) hb ?_; intro hl; (conv => whnf))
    | (refine ⟨rfl, ?_⟩; (conv => whnf))
    | (refine ⟨bdA (by simp only [List.length_append, List.length_cons, List.length_nil, ndsS_len]; omega), ?_⟩; (conv => whnf))
    | exact hQ _ _ hG (by omega)
    | (refine fail_st C (by omega) hG (by intro e he; first | exact hE e he | exact ⟨True.intro, hE e he⟩))
    | (refine tc_self (rd_wr C hl) ?_)
    | (refine ifT_c (fun h => by exfalso; simp at h; omega) (fun h => ?_); (conv => whnf))
    | (refine ifT_c (fun h => ?_) (fun h => by exfalso; simp at h; omega); (conv => whnf))
    | (refine q_eq ?_ ?_ (hQ _ _ hG (by omega)) <;> first | rfl | exact sn_agg rfl | exact sn_row rfl | exact rd_wr C hl)
  refine loop_1 3 (fun m a s => ∃ acc j c, a = .r (.c c) ∧ AccV acc c ∧ s = ⟨1, [oR sl j]⟩ ∧ j ≤ ts.length ∧ m ≤ f + 1 ∧ 2 * acc.length ≤ j ∧ Gd E P (gr ts m (.clauses acc) j)) (f + 1) [99] rfl ⟨[], _, _, rfl, .inl ⟨rfl, rfl⟩, rfl, by omega, Nat.le_refl _, by simp only [List.length_nil]; omega, hG0⟩ ?_
  rintro m a f1 s ⟨acc, j, c, rfl, hA, rfl, hj, hmf, hb2, hG⟩
  rcases m with _ | m
  · exact hG.elim
  have ihm := ih m (by omega)
  simp only [gr] at hG
  rcases hA with ⟨rfl, rfl⟩ | ⟨hne, rfl⟩
  all_goals
    (conv => whnf)
    repeat' first
        | (refine has_st C hG (by first | decide | exact cl_ne) (by omega) (fun hl hG => ?_) (fun hG => ?_) <;> (conv => whnf))
        | (refine now_tc C (by omega) ?_; (conv => whnf))
        | (refine want_st C hG (by first | decide | exact cl_ne) (by omega) (by intro e he; first | exact hE e he | exact ⟨True.intro, hE e he⟩) ?_; intro hl hG; (conv => whnf))
        | (refine is_st C hG (by first | decide | exact cl_ne) (by omega) (fun hb hl hG => ?_) (fun hb hG => ?_) <;> (conv => whnf))
        | (refine wantK_st C hG (by decide) (by omega) (by intro e he; first | exact hE e he | exact ⟨True.intro, hE e he⟩) ?_; intro hl hG; (conv => whnf))
        | (refine begins_st C hG (by omega) (fun hG => ?_) (fun hG => ?_) <;> (conv => whnf))
        | (refine kind_st C hG (by decide) (by omega) (fun hl hG => ?_) (fun hG => ?_) <;> (conv => whnf))
        | (refine rul_st ihm.places hG (by trivial) rfl (by intro e he; first | exact hE e he | exact ⟨True.intro, hE e he⟩) (by omega) ?_; intro n1 l1 x1 o1 ks1 j1 hp1 hj1 hG; simp only [NT.min] at hp1; (conv => whnf))
        | (refine tal_st ihm.places hG (by trivial) rfl (by intro e he; first | exact hE e he | exact ⟨True.intro, hE e he⟩) (by omega) ?_; intro n1 l1 x1 o1 ks1 j1 hp1 hj1 hG; simp only [NT.min] at hp1; (conv => whnf))
        | (refine rul_st ihm.or_ hG (by trivial) rfl (by intro e he; first | exact hE e he | exact ⟨True.intro, hE e he⟩) (by omega) ?_; intro n1 l1 x1 o1 ks1 j1 hp1 hj1 hG; simp only [NT.min] at hp1; (conv => whnf))
        | (refine tal_st ihm.or_ hG (by trivial) rfl (by intro e he; first | exact hE e he | exact ⟨True.intro, hE e he⟩) (by omega) ?_; intro n1 l1 x1 o1 ks1 j1 hp1 hj1 hG; simp only [NT.min] at hp1; (conv => whnf))
        | (refine single_st hG (fun hG => ?_) (fun hG => ?_) <;> (conv => whnf))
        | (refine place_st hG (fun hG => ?_) (fun hG => ?_) <;> (conv => whnf))
        | (refine operator_st C hG (by omega) (by intro e he; first | exact hE e he | exact ⟨True.intro, hE e he⟩) (fun hG => ?_) (fun op1 j1 hj0 hj1 hG => ?_) <;> (conv => whnf))
        | (refine augment_st C hG (by omega) (fun ha hl hG => ?_) (fun hG => ?_) <;> (conv => whnf))
        | (intro (hmx : _ ≤ maxLen); (conv => whnf))
        | (refine is_stf C hG (by first | decide | exact cl_ne) (by omega) (fun hG => ?_) (fun hG => ?_) <;> (conv => whnf))
        | (refine want_kn C (by decide) (by omega) hb ?_; intro hl; (conv => whnf))
        | exact ⟨m, [3], by omega, rfl, _, _, _, rfl, accV_app rfl, rfl, by omega, by omega, (by simp only [List.length_append, List.length_cons, List.length_nil]; omega), hG⟩
        | (refine ⟨rfl, ?_⟩; (conv => whnf))
        | (refine ⟨bdA (by simp only [List.length_append, List.length_cons, List.length_nil, ndsS_len]; omega), ?_⟩; (conv => whnf))
        | exact hQ _ _ hG (by omega)
        | (refine fail_st C (by omega) hG (by intro e he; first | exact hE e he | exact ⟨True.intro, hE e he⟩))
        | (refine tc_self (rd_wr C hl) ?_)
        | (refine ifT_c (fun h => by exfalso; simp at h; omega) (fun h => ?_); (conv => whnf))
        | (refine ifT_c (fun h => ?_) (fun h => by exfalso; simp at h; omega); (conv => whnf))
        | (refine q_eq ?_ ?_ (hQ _ _ hG (by omega)) <;> first | rfl | exact sn_agg rfl | exact sn_row rfl | exact rd_wr C hl)
end
end Can
end Go.Proofs.Ytnkfdkfmdeibfaa
end
section
namespace Go.Proofs.Ytnkfdkfmdeibfaa
namespace Can
open Go Go.RowKit
set_option linter.unusedSimpArgs false
set_option linter.unusedVariables false
set_option maxRecDepth 4000
attribute [local irreducible] TC isT nowT begT placeN
section
variable {Z : TP} {X : Pan} {W : Int → Value} {ts : List PT} {sl : Sl} {f : Nat}
set_option maxHeartbeats 4000000 in
theorem pw_compare (C : PCtx Z X W ts sl) (ih : ∀ g, g ≤ f → PAll Z X W ts sl g) : PC Z X W ts sl (f + 1) .compare 73 [.ptr 0 0] ans1 := by
  intro   i Q R E P hi hG hE hQ
  have ihf := ih f (Nat.le_refl f)
  have hln := C.len
  have hG0 := hG
  simp only [gr] at hG
  refine tc_rG dt_ok (by rfl) (by kernel_rfl) ?_
  conv in (rF _ _).body => reduce
  conv in (rF _ _).res => reduce
  conv => whnf
  repeat' first
    | (refine has_st C hG (by first | decide | exact cl_ne) (by omega) (fun hl hG => ?_) (fun hG => ?_) <;> (conv => whnf))
    | (refine now_tc C (by omega) ?_; (conv => whnf))
    | (refine want_st C hG (by first | decide | exact cl_ne) (by omega) (by intro e he; first | exact hE e he | exact ⟨True.intro, hE e he⟩) ?_; intro hl hG; (conv => whnf))
    | (refine is_st C hG (by first | decide | exact cl_ne) (by omega) (fun hb hl hG => ?_) (fun hb hG => ?_) <;> (conv => whnf))
    | (refine wantK_st C hG (by decide) (by omega) (by intro e he; first | exact hE e he | exact ⟨True.intro, hE e he⟩) ?_; intro hl hG; (conv => whnf))
    | (refine begins_st C hG (by omega) (fun hG => ?_) (fun hG => ?_) <;> (conv => whnf))
    | (refine kind_st C hG (by decide) (by omega) (fun hl hG => ?_) (fun hG => ?_) <;> (conv => whnf))
    | (refine rul_st ihf.arith hG (by trivial) rfl (by intro e he; first | exact hE e he | exact ⟨True.intro, hE e he⟩) (by omega) ?_; intro n1 l1 x1 o1 ks1 j1 hp1 hj1 hG; simp only [NT.min] at hp1; (conv => whnf))
    | (refine tal_st ihf.arith hG (by trivial) rfl (by intro e he; first | exact hE e he | exact ⟨True.intro, hE e he⟩) (by omega) ?_; intro n1 l1 x1 o1 ks1 j1 hp1 hj1 hG; simp only [NT.min] at hp1; (conv => whnf))
    | (refine single_st hG (fun hG => ?_) (fun hG => ?_) <;> (conv => whnf))
    | (refine place_st hG (fun hG => ?_) (fun hG => ?_) <;> (conv => whnf))
    | (refine operator_st C hG (by omega) (by intro e he; first | exact hE e he | exact ⟨True.intro, hE e he⟩) (fun hG => ?_) (fun op1 j1 hj0 hj1 hG => ?_) <;> (conv => whnf))
    | (refine augment_st C hG (by omega) (fun ha hl hG => ?_) (fun hG => ?_) <;> (conv => whnf))
    | (intro (hmx : _ ≤ maxLen); (conv => whnf))
    | (refine is_stf C hG (by first | decide | exact cl_ne) (by omega) (fun hG => ?_) (fun hG => ?_) <;> (conv => whnf))
    | (refine want_kn C (by decide) (by omega) hb ?_; intro hl; (conv => whnf))
    | (refine ⟨rfl, ?_⟩; (conv => whnf))
    | (refine ⟨bdA (by simp only [List.length_append, List.length_cons, List.length_nil, ndsS_len]; omega), ?_⟩; (conv => whnf))
    | exact hQ _ _ hG (by omega)
    | (refine fail_st C (by omega) hG (by intro e he; first | exact hE e he | exact ⟨True.intro, hE e he⟩))
    | (refine tc_self (rd_wr C hl) ?_)
    | (refine ifT_c (fun h => by exfalso; simp at h; omega) (fun h => ?_); (conv => whnf))
    | (refine ifT_c (fun h => ?_) (fun h => by exfalso; simp at h; omega); (conv => whnf))
    | (refine q_eq ?_ ?_ (hQ _ _ hG (by omega)) <;> first | rfl | exact sn_agg rfl | exact sn_row rfl | exact rd_wr C hl)
  refine loop_0 (fun m s => ∃ acc j, s = ⟨1, [oR sl j, oN nzC, oN (nA n1 l1 x1 o1 ks1), oN (nC 42 l1 [] 0 (.own 0 28 5 (ndS (.mk n1 l1 x1 o1 ks1) :: ndsS acc)))]⟩ ∧ j ≤ ts.length ∧ m ≤ f ∧ 2 * acc.length + 1 ≤ j ∧ Gd E P (gr ts m (.cmpL (.mk n1 l1 x1 o1 ks1) acc) j)) f [0] rfl ⟨[], _, rfl, by omega, Nat.le_refl _, by simp only [List.length_nil]; omega, hG⟩ ?_
  rintro m f1 s ⟨acc, j, rfl, hj, hmf, hb2, hG⟩
  rcases m with _ | m
  · exact hG.elim
  have ihm := ih m (by omega)
  simp only [gr] at hG
  (conv => whnf)
  repeat' first
      | (refine has_st C hG (by first | decide | exact cl_ne) (by omega) (fun hl hG => ?_) (fun hG => ?_) <;> (conv => whnf))
      | (refine now_tc C (by omega) ?_; (conv => whnf))
      | (refine want_st C hG (by first | decide | exact cl_ne) (by omega) (by intro e he; first | exact hE e he | exact ⟨True.intro, hE e he⟩) ?_; intro hl hG; (conv => whnf))
      | (refine is_st C hG (by first | decide | exact cl_ne) (by omega) (fun hb hl hG => ?_) (fun hb hG => ?_) <;> (conv => whnf))
      | (refine wantK_st C hG (by decide) (by omega) (by intro e he; first | exact hE e he | exact ⟨True.intro, hE e he⟩) ?_; intro hl hG; (conv => whnf))
      | (refine begins_st C hG (by omega) (fun hG => ?_) (fun hG => ?_) <;> (conv => whnf))
      | (refine kind_st C hG (by decide) (by omega) (fun hl hG => ?_) (fun hG => ?_) <;> (conv => whnf))
      | (refine rul_st ihm.arith hG (by trivial) rfl (by intro e he; first | exact hE e he | exact ⟨True.intro, hE e he⟩) (by omega) ?_; intro n1 l1 x1 o1 ks1 j1 hp1 hj1 hG; simp only [NT.min] at hp1; (conv => whnf))
      | (refine tal_st ihm.arith hG (by trivial) rfl (by intro e he; first | exact hE e he | exact ⟨True.intro, hE e he⟩) (by omega) ?_; intro n1 l1 x1 o1 ks1 j1 hp1 hj1 hG; simp only [NT.min] at hp1; (conv => whnf))
      | (refine single_st hG (fun hG => ?_) (fun hG => ?_) <;> (conv => whnf))
      | (refine place_st hG (fun hG => ?_) (fun hG => ?_) <;> (conv => whnf))
      | (refine operator_st C hG (by omega) (by intro e he; first | exact hE e he | exact ⟨True.intro, hE e he⟩) (fun hG => ?_) (fun op1 j1 hj0 hj1 hG => ?_) <;> (conv => whnf))
      | (refine augment_st C hG (by omega) (fun ha hl hG => ?_) (fun hG => ?_) <;> (conv => whnf))
      | (intro (hmx : _ ≤ maxLen); (conv => whnf))
      | (refine is_stf C hG (by first | decide | exact cl_ne) (by omega) (fun hG => ?_) (fun hG => ?_) <;> (conv => whnf))
      | (refine want_kn C (by decide) (by omega) hb ?_; intro hl; (conv => whnf))
      | exact ⟨m, [3], by omega, rfl, acc ++ [.mk 43 (nowT ts j).line [] (op1 + 1) [.mk n1 l1 x1 o1 ks1]], _, (by rw [ndsS_snoc]; rfl), by omega, by omega, (by simp only [List.length_append, List.length_cons, List.length_nil]; omega), hG⟩
      | (refine ifT_c (fun h => ?_) (fun h => ?_); (have : acc = [] := by cases acc; rfl; (simp [ndsS] at h <;> omega)); subst this; (conv => whnf); exact hQ _ _ hG (by omega); (have : acc.isEmpty = false := by cases acc; (simp [ndsS] at h <;> omega); rfl); rw [this] at hG; (conv => whnf); exact hQ _ _ hG (by omega))
      | (refine ⟨rfl, ?_⟩; (conv => whnf))
      | (refine ⟨bdA (by simp only [List.length_append, List.length_cons, List.length_nil, ndsS_len]; omega), ?_⟩; (conv => whnf))
      | exact hQ _ _ hG (by omega)
      | (refine fail_st C (by omega) hG (by intro e he; first | exact hE e he | exact ⟨True.intro, hE e he⟩))
      | (refine tc_self (rd_wr C hl) ?_)
      | (refine ifT_c (fun h => by exfalso; simp at h; omega) (fun h => ?_); (conv => whnf))
      | (refine ifT_c (fun h => ?_) (fun h => by exfalso; simp at h; omega); (conv => whnf))
      | (refine q_eq ?_ ?_ (hQ _ _ hG (by omega)) <;> first | rfl | exact sn_agg rfl | exact sn_row rfl | exact rd_wr C hl)
set_option maxHeartbeats 4000000 in
theorem pw_braces (C : PCtx Z X W ts sl) (ih : ∀ g, g ≤ f → PAll Z X W ts sl g) : ∀ (ln : Int), PC Z X W ts sl (f + 1) (.braces ln) 67 [.ptr 0 0, rS (.int .i64 ln)] ans1 := by
  intro ln  i Q R E P hi hG hE hQ
  have ihf := ih f (Nat.le_refl f)
  have hln := C.len
  have hG0 := hG
  simp only [gr] at hG
  refine tc_rG dt_ok (by rfl) (by kernel_rfl) ?_
  conv in (rF _ _).body => reduce
  conv in (rF _ _).res => reduce
  conv => whnf
  repeat' first
    | (refine has_st C hG (by first | decide | exact cl_ne) (by omega) (fun hl hG => ?_) (fun hG => ?_) <;> (conv => whnf))
    | (refine now_tc C (by omega) ?_; (conv => whnf))
    | (refine want_st C hG (by first | decide | exact cl_ne) (by omega) (by intro e he; first | exact hE e he | exact ⟨True.intro, hE e he⟩) ?_; intro hl hG; (conv => whnf))
    | (refine is_st C hG (by first | decide | exact cl_ne) (by omega) (fun hb hl hG => ?_) (fun hb hG => ?_) <;> (conv => whnf))
    | (refine wantK_st C hG (by decide) (by omega) (by intro e he; first | exact hE e he | exact ⟨True.intro, hE e he⟩) ?_; intro hl hG; (conv => whnf))
    | (refine begins_st C hG (by omega) (fun hG => ?_) (fun hG => ?_) <;> (conv => whnf))
    | (refine kind_st C hG (by decide) (by omega) (fun hl hG => ?_) (fun hG => ?_) <;> (conv => whnf))
    | (refine rul_st ihf.expr hG (by trivial) rfl (by intro e he; first | exact hE e he | exact ⟨True.intro, hE e he⟩) (by omega) ?_; intro n1 l1 x1 o1 ks1 j1 hp1 hj1 hG; simp only [NT.min] at hp1; (conv => whnf))
    | (refine tal_st ihf.expr hG (by trivial) rfl (by intro e he; first | exact hE e he | exact ⟨True.intro, hE e he⟩) (by omega) ?_; intro n1 l1 x1 o1 ks1 j1 hp1 hj1 hG; simp only [NT.min] at hp1; (conv => whnf))
    | (refine lst_st ihf.clauses hG (by trivial) rfl (by intro e he; first | exact hE e he | exact ⟨True.intro, hE e he⟩) (by omega) ?_; intro l1 j1 hp1 hj1 hb1 hG; simp only [NT.acc, Option.getD_some, List.length_nil] at hb1; (conv => whnf))
    | (refine lst_st (ihf.row _ (by decide)) hG (by trivial) rfl (by intro e he; first | exact hE e he | exact ⟨True.intro, hE e he⟩) (by omega) ?_; intro l1 j1 hp1 hj1 hb1 hG; simp only [NT.acc, Option.getD_some, List.length_nil] at hb1; (conv => whnf))
    | (refine single_st hG (fun hG => ?_) (fun hG => ?_) <;> (conv => whnf))
    | (refine place_st hG (fun hG => ?_) (fun hG => ?_) <;> (conv => whnf))
    | (refine operator_st C hG (by omega) (by intro e he; first | exact hE e he | exact ⟨True.intro, hE e he⟩) (fun hG => ?_) (fun op1 j1 hj0 hj1 hG => ?_) <;> (conv => whnf))
    | (refine augment_st C hG (by omega) (fun ha hl hG => ?_) (fun hG => ?_) <;> (conv => whnf))
    | (intro (hmx : _ ≤ maxLen); (conv => whnf))
    | (refine is_stf C hG (by first | decide | exact cl_ne) (by omega) (fun hG => ?_) (fun hG => ?_) <;> (conv => whnf))
    | (refine want_kn C (by decide) (by omega) hb ?_; intro hl; (conv => whnf))
    | (refine ⟨rfl, ?_⟩; (conv => whnf))
    | (refine ⟨bdA (by simp only [List.length_append, List.length_cons, List.length_nil, ndsS_len]; omega), ?_⟩; (conv => whnf))
    | exact hQ _ _ hG (by omega)
    | (refine fail_st C (by omega) hG (by intro e he; first | exact hE e he | exact ⟨True.intro, hE e he⟩))
    | (refine tc_self (rd_wr C hl) ?_)
    | (refine ifT_c (fun h => by exfalso; simp at h; omega) (fun h => ?_); (conv => whnf))
    | (refine ifT_c (fun h => ?_) (fun h => by exfalso; simp at h; omega); (conv => whnf))
    | (refine q_eq ?_ ?_ (hQ _ _ hG (by omega)) <;> first | rfl | exact sn_agg rfl | exact sn_row rfl | exact rd_wr C hl)
  refine loop_0 (fun m s => ∃ ke le xe oe kse kv lv xv ov ksv acc j, s = ⟨1, [oR sl j, oN nzC, oN (nA ke le xe oe kse), oN (nA kv lv xv ov ksv), oN (nC 54 ln [] 0 (.own 0 28 5 (ndsS acc)))]⟩ ∧ j ≤ ts.length ∧ m ≤ f ∧ 2 * acc.length ≤ j + 1 ∧ Gd E P (gr ts m (.dictL ln acc) j)) f [0] rfl ⟨_, _, _, _, _, _, _, _, _, _, [_, _], _, rfl, by omega, Nat.le_refl _, by simp only [List.length_cons, List.length_nil]; omega, hG⟩ ?_
  rintro m f1 s ⟨ke, le, xe, oe, kse, kv, lv, xv, ov, ksv, acc, j, rfl, hj, hmf, hb2, hG⟩
  rcases m with _ | m
  · exact hG.elim
  have ihm := ih m (by omega)
  simp only [gr] at hG
  (conv => whnf)
  repeat' first
      | (refine has_st C hG (by first | decide | exact cl_ne) (by omega) (fun hl hG => ?_) (fun hG => ?_) <;> (conv => whnf))
      | (refine now_tc C (by omega) ?_; (conv => whnf))
      | (refine want_st C hG (by first | decide | exact cl_ne) (by omega) (by intro e he; first | exact hE e he | exact ⟨True.intro, hE e he⟩) ?_; intro hl hG; (conv => whnf))
      | (refine is_st C hG (by first | decide | exact cl_ne) (by omega) (fun hb hl hG => ?_) (fun hb hG => ?_) <;> (conv => whnf))
      | (refine wantK_st C hG (by decide) (by omega) (by intro e he; first | exact hE e he | exact ⟨True.intro, hE e he⟩) ?_; intro hl hG; (conv => whnf))
      | (refine begins_st C hG (by omega) (fun hG => ?_) (fun hG => ?_) <;> (conv => whnf))
      | (refine kind_st C hG (by decide) (by omega) (fun hl hG => ?_) (fun hG => ?_) <;> (conv => whnf))
      | (refine rul_st ihm.expr hG (by trivial) rfl (by intro e he; first | exact hE e he | exact ⟨True.intro, hE e he⟩) (by omega) ?_; intro n1 l1 x1 o1 ks1 j1 hp1 hj1 hG; simp only [NT.min] at hp1; (conv => whnf))
      | (refine tal_st ihm.expr hG (by trivial) rfl (by intro e he; first | exact hE e he | exact ⟨True.intro, hE e he⟩) (by omega) ?_; intro n1 l1 x1 o1 ks1 j1 hp1 hj1 hG; simp only [NT.min] at hp1; (conv => whnf))
      | (refine single_st hG (fun hG => ?_) (fun hG => ?_) <;> (conv => whnf))
      | (refine place_st hG (fun hG => ?_) (fun hG => ?_) <;> (conv => whnf))
      | (refine operator_st C hG (by omega) (by intro e he; first | exact hE e he | exact ⟨True.intro, hE e he⟩) (fun hG => ?_) (fun op1 j1 hj0 hj1 hG => ?_) <;> (conv => whnf))
      | (refine augment_st C hG (by omega) (fun ha hl hG => ?_) (fun hG => ?_) <;> (conv => whnf))
      | (intro (hmx : _ ≤ maxLen); (conv => whnf))
      | (refine is_stf C hG (by first | decide | exact cl_ne) (by omega) (fun hG => ?_) (fun hG => ?_) <;> (conv => whnf))
      | (refine want_kn C (by decide) (by omega) hb ?_; intro hl; (conv => whnf))
      | exact ⟨m, [2], by omega, rfl, _, _, _, _, _, _, _, _, _, _, acc ++ [_, _], _, (by rw [ndsS_app]; rfl), by omega, by omega, (by simp only [List.length_append, List.length_cons, List.length_nil]; omega), hG⟩
      | (refine ⟨rfl, ?_⟩; (conv => whnf))
      | (refine ⟨bdA (by simp only [List.length_append, List.length_cons, List.length_nil, ndsS_len]; omega), ?_⟩; (conv => whnf))
      | exact hQ _ _ hG (by omega)
      | (refine fail_st C (by omega) hG (by intro e he; first | exact hE e he | exact ⟨True.intro, hE e he⟩))
      | (refine tc_self (rd_wr C hl) ?_)
      | (refine ifT_c (fun h => by exfalso; simp at h; omega) (fun h => ?_); (conv => whnf))
      | (refine ifT_c (fun h => ?_) (fun h => by exfalso; simp at h; omega); (conv => whnf))
      | (refine q_eq ?_ ?_ (hQ _ _ hG (by omega)) <;> first | rfl | exact sn_agg rfl | exact sn_row rfl | exact rd_wr C hl)
set_option maxHeartbeats 4000000 in
theorem pw_index (C : PCtx Z X W ts sl) (ih : ∀ g, g ≤ f → PAll Z X W ts sl g) : ∀ (k : Nat) (l : Int) (x : List UInt8) (o : Nat) (ks : List Nd), PC Z X W ts sl (f + 1) (.index (.mk k l x o ks)) 53 [.ptr 0 0, ndA (.mk k l x o ks)] ans1 := by
  intro k l x o ks  i Q R E P hi hG hE hQ
  have ihf := ih f (Nat.le_refl f)
  have hln := C.len
  have hG0 := hG
  simp only [gr] at hG
  refine tc_rG dt_ok (by rfl) (by kernel_rfl) ?_
  conv in (rF _ _).body => reduce
  conv in (rF _ _).res => reduce
  conv => whnf
  repeat' first
    | (refine has_st C hG (by first | decide | exact cl_ne) (by omega) (fun hl hG => ?_) (fun hG => ?_) <;> (conv => whnf))
    | (refine now_tc C (by omega) ?_; (conv => whnf))
    | (refine want_st C hG (by first | decide | exact cl_ne) (by omega) (by intro e he; first | exact hE e he | exact ⟨True.intro, hE e he⟩) ?_; intro hl hG; (conv => whnf))
    | (refine is_st C hG (by first | decide | exact cl_ne) (by omega) (fun hb hl hG => ?_) (fun hb hG => ?_) <;> (conv => whnf))
    | (refine wantK_st C hG (by decide) (by omega) (by intro e he; first | exact hE e he | exact ⟨True.intro, hE e he⟩) ?_; intro hl hG; (conv => whnf))
    | (refine begins_st C hG (by omega) (fun hG => ?_) (fun hG => ?_) <;> (conv => whnf))
    | (refine kind_st C hG (by decide) (by omega) (fun hl hG => ?_) (fun hG => ?_) <;> (conv => whnf))
    | (refine rul_st ihf.expr hG (by trivial) rfl (by intro e he; first | exact hE e he | exact ⟨True.intro, hE e he⟩) (by omega) ?_; intro n1 l1 x1 o1 ks1 j1 hp1 hj1 hG; simp only [NT.min] at hp1; (conv => whnf))
    | (refine tal_st ihf.expr hG (by trivial) rfl (by intro e he; first | exact hE e he | exact ⟨True.intro, hE e he⟩) (by omega) ?_; intro n1 l1 x1 o1 ks1 j1 hp1 hj1 hG; simp only [NT.min] at hp1; (conv => whnf))
    | (refine single_st hG (fun hG => ?_) (fun hG => ?_) <;> (conv => whnf))
    | (refine place_st hG (fun hG => ?_) (fun hG => ?_) <;> (conv => whnf))
    | (refine operator_st C hG (by omega) (by intro e he; first | exact hE e he | exact ⟨True.intro, hE e he⟩) (fun hG => ?_) (fun op1 j1 hj0 hj1 hG => ?_) <;> (conv => whnf))
    | (refine augment_st C hG (by omega) (fun ha hl hG => ?_) (fun hG => ?_) <;> (conv => whnf))
    | (intro (hmx : _ ≤ maxLen); (conv => whnf))
    | (refine is_stf C hG (by first | decide | exact cl_ne) (by omega) (fun hG => ?_) (fun hG => ?_) <;> (conv => whnf))
    | (refine want_kn C (by decide) (by omega) hb ?_; intro hl; (conv => whnf))
    | (refine ⟨rfl, ?_⟩; (conv => whnf))
    | (refine ⟨bdA (by simp only [List.length_append, List.length_cons, List.length_nil, ndsS_len]; omega), ?_⟩; (conv => whnf))
    | exact hQ _ _ hG (by omega)
    | (refine fail_st C (by omega) hG (by intro e he; first | exact hE e he | exact ⟨True.intro, hE e he⟩))
    | (refine tc_self (rd_wr C hl) ?_)
    | (refine ifT_c (fun h => by exfalso; simp at h; omega) (fun h => ?_); (conv => whnf))
    | (refine ifT_c (fun h => ?_) (fun h => by exfalso; simp at h; omega); (conv => whnf))
    | (refine q_eq ?_ ?_ (hQ _ _ hG (by omega)) <;> first | rfl | exact sn_agg rfl | exact sn_row rfl | exact rd_wr C hl)
  refine loop_0 (fun m s => ∃ km lm xm om ksm kl ll xl ol ksl acc j ln, s = ⟨1, [oR sl j, oN (nA k l x o ks), oN nzC, oN (nA km lm xm om ksm), oN (nA kl ll xl ol ksl), oN (nC 52 ln [] 0 (.own 0 28 5 (ndsS acc)))]⟩ ∧ j ≤ ts.length ∧ m ≤ f ∧ 2 * acc.length ≤ j + 1 ∧ Gd E P (pb1 (gr ts m (.exprsL ln acc) j) fun t j2 => pk1 (nd 46 l [.mk k l x o ks, t]) j2)) f [0] rfl ⟨_, _, _, _, [], _, _, _, _, _, [.mk n1 l1 x1 o1 ks1], _, _, rfl, by omega, Nat.le_refl _, by simp only [List.length_cons, List.length_nil]; omega, hG⟩ ?_
  rintro m f1 s ⟨km, lm, xm, om, ksm, kl, ll, xl, ol, ksl, acc, j, ln, rfl, hj, hmf, hb2, hG⟩
  have hG := gd_pb1.1 hG
  rcases m with _ | m
  · exact hG.elim
  have ihm := ih m (by omega)
  simp only [gr] at hG
  (conv => whnf)
  repeat' first
      | (refine has_st C hG (by first | decide | exact cl_ne) (by omega) (fun hl hG => ?_) (fun hG => ?_) <;> (conv => whnf))
      | (refine now_tc C (by omega) ?_; (conv => whnf))
      | (refine want_st C hG (by first | decide | exact cl_ne) (by omega) (by intro e he; first | exact hE e he | exact ⟨True.intro, hE e he⟩) ?_; intro hl hG; (conv => whnf))
      | (refine is_st C hG (by first | decide | exact cl_ne) (by omega) (fun hb hl hG => ?_) (fun hb hG => ?_) <;> (conv => whnf))
      | (refine wantK_st C hG (by decide) (by omega) (by intro e he; first | exact hE e he | exact ⟨True.intro, hE e he⟩) ?_; intro hl hG; (conv => whnf))
      | (refine begins_st C hG (by omega) (fun hG => ?_) (fun hG => ?_) <;> (conv => whnf))
      | (refine kind_st C hG (by decide) (by omega) (fun hl hG => ?_) (fun hG => ?_) <;> (conv => whnf))
      | (refine rul_st ihm.expr hG (by trivial) rfl (by intro e he; first | exact hE e he | exact ⟨True.intro, hE e he⟩) (by omega) ?_; intro n1 l1 x1 o1 ks1 j1 hp1 hj1 hG; simp only [NT.min] at hp1; (conv => whnf))
      | (refine tal_st ihm.expr hG (by trivial) rfl (by intro e he; first | exact hE e he | exact ⟨True.intro, hE e he⟩) (by omega) ?_; intro n1 l1 x1 o1 ks1 j1 hp1 hj1 hG; simp only [NT.min] at hp1; (conv => whnf))
      | (refine single_st hG (fun hG => ?_) (fun hG => ?_) <;> (conv => whnf))
      | (refine place_st hG (fun hG => ?_) (fun hG => ?_) <;> (conv => whnf))
      | (refine operator_st C hG (by omega) (by intro e he; first | exact hE e he | exact ⟨True.intro, hE e he⟩) (fun hG => ?_) (fun op1 j1 hj0 hj1 hG => ?_) <;> (conv => whnf))
      | (refine augment_st C hG (by omega) (fun ha hl hG => ?_) (fun hG => ?_) <;> (conv => whnf))
      | (intro (hmx : _ ≤ maxLen); (conv => whnf))
      | (refine is_stf C hG (by first | decide | exact cl_ne) (by omega) (fun hG => ?_) (fun hG => ?_) <;> (conv => whnf))
      | (refine want_kn C (by decide) (by omega) hb ?_; intro hl; (conv => whnf))
      | exact ⟨m, [2], by omega, rfl, _, _, _, _, _, _, _, _, _, _, acc ++ [.mk n1 l1 x1 o1 ks1], _, _, (by rw [ndsS_snoc]; rfl), by omega, by omega, (by simp only [List.length_append, List.length_cons, List.length_nil]; omega), gd_pb1.2 hG⟩
      | exact hQ _ _ (gd_pk1 hG) (by omega)
      | (refine ⟨rfl, ?_⟩; (conv => whnf))
      | (refine ⟨bdA (by simp only [List.length_append, List.length_cons, List.length_nil, ndsS_len]; omega), ?_⟩; (conv => whnf))
      | exact hQ _ _ hG (by omega)
      | (refine fail_st C (by omega) hG (by intro e he; first | exact hE e he | exact ⟨True.intro, hE e he⟩))
      | (refine tc_self (rd_wr C hl) ?_)
      | (refine ifT_c (fun h => by exfalso; simp at h; omega) (fun h => ?_); (conv => whnf))
      | (refine ifT_c (fun h => ?_) (fun h => by exfalso; simp at h; omega); (conv => whnf))
      | (refine q_eq ?_ ?_ (hQ _ _ hG (by omega)) <;> first | rfl | exact sn_agg rfl | exact sn_row rfl | exact rd_wr C hl)
end
end Can
end Go.Proofs.Ytnkfdkfmdeibfaa
end
section
namespace Go.Proofs.Ytnkfdkfmdeibfaa
namespace Can
open Go Go.RowKit
set_option linter.unusedSimpArgs false
set_option linter.unusedVariables false
set_option maxRecDepth 4000
attribute [local irreducible] TC isT nowT begT placeN
section
variable {Z : TP} {X : Pan} {W : Int → Value} {ts : List PT} {sl : Sl} {f : Nat}
set_option maxHeartbeats 4000000 in
theorem pw_plain (C : PCtx Z X W ts sl) (ih : ∀ g, g ≤ f → PAll Z X W ts sl g) : PC Z X W ts sl (f + 1) .plain 45 [.ptr 0 0] ans1 := by
  intro   i Q R E P hi hG hE hQ
  have ihf := ih f (Nat.le_refl f)
  have hln := C.len
  have hG0 := hG
  simp only [gr] at hG
  refine tc_rG dt_ok (by rfl) (by kernel_rfl) ?_
  conv in (rF _ _).body => reduce
  conv in (rF _ _).res => reduce
  conv => whnf
  repeat' first
    | (refine has_st C hG (by first | decide | exact cl_ne) (by omega) (fun hl hG => ?_) (fun hG => ?_) <;> (conv => whnf))
    | (refine now_tc C (by omega) ?_; (conv => whnf))
    | (refine want_st C hG (by first | decide | exact cl_ne) (by omega) (by intro e he; first | exact hE e he | exact ⟨True.intro, hE e he⟩) ?_; intro hl hG; (conv => whnf))
    | (refine is_st C hG (by first | decide | exact cl_ne) (by omega) (fun hb hl hG => ?_) (fun hb hG => ?_) <;> (conv => whnf))
    | (refine wantK_st C hG (by decide) (by omega) (by intro e he; first | exact hE e he | exact ⟨True.intro, hE e he⟩) ?_; intro hl hG; (conv => whnf))
    | (refine begins_st C hG (by omega) (fun hG => ?_) (fun hG => ?_) <;> (conv => whnf))
    | (refine kind_st C hG (by decide) (by omega) (fun hl hG => ?_) (fun hG => ?_) <;> (conv => whnf))
    | (refine rul_st ihf.exprs hG (by trivial) rfl (by intro e he; first | exact hE e he | exact ⟨True.intro, hE e he⟩) (by omega) ?_; intro n1 l1 x1 o1 ks1 j1 hp1 hj1 hG; simp only [NT.min] at hp1; (conv => whnf))
    | (refine tal_st ihf.exprs hG (by trivial) rfl (by intro e he; first | exact hE e he | exact ⟨True.intro, hE e he⟩) (by omega) ?_; intro n1 l1 x1 o1 ks1 j1 hp1 hj1 hG; simp only [NT.min] at hp1; (conv => whnf))
    | (refine single_st hG (fun hG => ?_) (fun hG => ?_) <;> (conv => whnf))
    | (refine place_st hG (fun hG => ?_) (fun hG => ?_) <;> (conv => whnf))
    | (refine operator_st C hG (by omega) (by intro e he; first | exact hE e he | exact ⟨True.intro, hE e he⟩) (fun hG => ?_) (fun op1 j1 hj0 hj1 hG => ?_) <;> (conv => whnf))
    | (refine augment_st C hG (by omega) (fun ha hl hG => ?_) (fun hG => ?_) <;> (conv => whnf))
    | (intro (hmx : _ ≤ maxLen); (conv => whnf))
    | (refine is_stf C hG (by first | decide | exact cl_ne) (by omega) (fun hG => ?_) (fun hG => ?_) <;> (conv => whnf))
    | (refine want_kn C (by decide) (by omega) hb ?_; intro hl; (conv => whnf))
    | (refine ⟨rfl, ?_⟩; (conv => whnf))
    | (refine ⟨bdA (by simp only [List.length_append, List.length_cons, List.length_nil, ndsS_len]; omega), ?_⟩; (conv => whnf))
    | exact hQ _ _ hG (by omega)
    | (refine fail_st C (by omega) hG (by intro e he; first | exact hE e he | exact ⟨True.intro, hE e he⟩))
    | (refine tc_self (rd_wr C hl) ?_)
    | (refine ifT_c (fun h => by exfalso; simp at h; omega) (fun h => ?_); (conv => whnf))
    | (refine ifT_c (fun h => ?_) (fun h => by exfalso; simp at h; omega); (conv => whnf))
    | (refine q_eq ?_ ?_ (hQ _ _ hG (by omega)) <;> first | rfl | exact sn_agg rfl | exact sn_row rfl | exact rd_wr C hl)
  refine loop_0 (fun m s => ∃ k l x o ks acc j ln, s = ⟨1, [oR sl j, oN nzC, oN (nA k l x o ks), oN (nC 3 ln [] 0 (.own 0 28 5 (ndsS acc)))]⟩ ∧ j ≤ ts.length ∧ m ≤ f ∧ acc ≠ [] ∧ 2 * acc.length ≤ j + 1 ∧ Gd E P (gr ts m (.asgL ln acc) j)) f [0] rfl ⟨_, _, _, _, _, [.mk n1 l1 x1 o1 ks1], _, _, rfl, by omega, Nat.le_refl _, by simp, by simp only [List.length_cons, List.length_nil]; omega, hG⟩ ?_
  rintro m f1 s ⟨k, l, x, o, ks, acc, j, ln, rfl, hj, hmf, hne, hb2, hG⟩
  rcases m with _ | m
  · exact hG.elim
  have ihm := ih m (by omega)
  obtain ⟨⟨k2, l2, x2, o2, ks2⟩, htl⟩ := last_ne hne
  simp only [gr, htl] at hG
  (conv => whnf)
  repeat' first
      | (refine has_st C hG (by first | decide | exact cl_ne) (by omega) (fun hl hG => ?_) (fun hG => ?_) <;> (conv => whnf))
      | (refine now_tc C (by omega) ?_; (conv => whnf))
      | (refine want_st C hG (by first | decide | exact cl_ne) (by omega) (by intro e he; first | exact hE e he | exact ⟨True.intro, hE e he⟩) ?_; intro hl hG; (conv => whnf))
      | (refine is_st C hG (by first | decide | exact cl_ne) (by omega) (fun hb hl hG => ?_) (fun hb hG => ?_) <;> (conv => whnf))
      | (refine wantK_st C hG (by decide) (by omega) (by intro e he; first | exact hE e he | exact ⟨True.intro, hE e he⟩) ?_; intro hl hG; (conv => whnf))
      | (refine begins_st C hG (by omega) (fun hG => ?_) (fun hG => ?_) <;> (conv => whnf))
      | (refine kind_st C hG (by decide) (by omega) (fun hl hG => ?_) (fun hG => ?_) <;> (conv => whnf))
      | (refine rul_st ihm.value hG (by trivial) rfl (by intro e he; first | exact hE e he | exact ⟨True.intro, hE e he⟩) (by omega) ?_; intro n1 l1 x1 o1 ks1 j1 hp1 hj1 hG; simp only [NT.min] at hp1; (conv => whnf))
      | (refine tal_st ihm.value hG (by trivial) rfl (by intro e he; first | exact hE e he | exact ⟨True.intro, hE e he⟩) (by omega) ?_; intro n1 l1 x1 o1 ks1 j1 hp1 hj1 hG; simp only [NT.min] at hp1; (conv => whnf))
      | (refine single_st hG (fun hG => ?_) (fun hG => ?_) <;> (conv => whnf))
      | (refine place_st hG (fun hG => ?_) (fun hG => ?_) <;> (conv => whnf))
      | (refine operator_st C hG (by omega) (by intro e he; first | exact hE e he | exact ⟨True.intro, hE e he⟩) (fun hG => ?_) (fun op1 j1 hj0 hj1 hG => ?_) <;> (conv => whnf))
      | (refine augment_st C hG (by omega) (fun ha hl hG => ?_) (fun hG => ?_) <;> (conv => whnf))
      | (intro (hmx : _ ≤ maxLen); (conv => whnf))
      | (refine is_stf C hG (by first | decide | exact cl_ne) (by omega) (fun hG => ?_) (fun hG => ?_) <;> (conv => whnf))
      | (refine want_kn C (by decide) (by omega) hb ?_; intro hl; (conv => whnf))
      | exact ⟨m, [2], by omega, rfl, _, _, _, _, _, acc ++ [.mk n1 l1 x1 o1 ks1], _, _, (by rw [ndsS_snoc]; rfl), by omega, by omega, by simp, (by simp only [List.length_append, List.length_cons, List.length_nil]; omega), hG⟩
      | (refine ⟨rfl, acc.length - 1, _, wr_dec hne hmx, ndsS_get (last_get htl), ?_⟩; (conv => whnf))
      | (refine ⟨rfl, ?_⟩; (conv => whnf))
      | (refine ⟨bdA (by simp only [List.length_append, List.length_cons, List.length_nil, ndsS_len]; omega), ?_⟩; (conv => whnf))
      | exact hQ _ _ hG (by omega)
      | (refine fail_st C (by omega) hG (by intro e he; first | exact hE e he | exact ⟨True.intro, hE e he⟩))
      | (refine tc_self (rd_wr C hl) ?_)
      | (refine ifT_c (fun h => by exfalso; simp at h; omega) (fun h => ?_); (conv => whnf))
      | (refine ifT_c (fun h => ?_) (fun h => by exfalso; simp at h; omega); (conv => whnf))
      | (refine q_eq ?_ ?_ (hQ _ _ hG (by omega)) <;> first | rfl | exact sn_agg rfl | exact sn_row rfl | exact rd_wr C hl)
set_option maxHeartbeats 4000000 in
theorem pw_block (C : PCtx Z X W ts sl) (ih : ∀ g, g ≤ f → PAll Z X W ts sl g) : PC Z X W ts sl (f + 1) .block 24 [.ptr 0 0] ans1 := by
  intro   i Q R E P hi hG hE hQ
  have ihf := ih f (Nat.le_refl f)
  have hln := C.len
  have hG0 := hG
  simp only [gr] at hG
  refine tc_rG dt_ok (by rfl) (by kernel_rfl) ?_
  conv in (rF _ _).body => reduce
  conv in (rF _ _).res => reduce
  conv => whnf
  repeat' first
    | (refine has_st C hG (by first | decide | exact cl_ne) (by omega) (fun hl hG => ?_) (fun hG => ?_) <;> (conv => whnf))
    | (refine now_tc C (by omega) ?_; (conv => whnf))
    | (refine want_st C hG (by first | decide | exact cl_ne) (by omega) (by intro e he; first | exact hE e he | exact ⟨True.intro, hE e he⟩) ?_; intro hl hG; (conv => whnf))
    | (refine is_st C hG (by first | decide | exact cl_ne) (by omega) (fun hb hl hG => ?_) (fun hb hG => ?_) <;> (conv => whnf))
    | (refine wantK_st C hG (by decide) (by omega) (by intro e he; first | exact hE e he | exact ⟨True.intro, hE e he⟩) ?_; intro hl hG; (conv => whnf))
    | (refine begins_st C hG (by omega) (fun hG => ?_) (fun hG => ?_) <;> (conv => whnf))
    | (refine kind_st C hG (by decide) (by omega) (fun hl hG => ?_) (fun hG => ?_) <;> (conv => whnf))
    | (refine rul_st ihf.simple hG (by trivial) rfl (by intro e he; first | exact hE e he | exact ⟨True.intro, hE e he⟩) (by omega) ?_; intro n1 l1 x1 o1 ks1 j1 hp1 hj1 hG; simp only [NT.min] at hp1; (conv => whnf))
    | (refine tal_st ihf.simple hG (by trivial) rfl (by intro e he; first | exact hE e he | exact ⟨True.intro, hE e he⟩) (by omega) ?_; intro n1 l1 x1 o1 ks1 j1 hp1 hj1 hG; simp only [NT.min] at hp1; (conv => whnf))
    | (refine single_st hG (fun hG => ?_) (fun hG => ?_) <;> (conv => whnf))
    | (refine place_st hG (fun hG => ?_) (fun hG => ?_) <;> (conv => whnf))
    | (refine operator_st C hG (by omega) (by intro e he; first | exact hE e he | exact ⟨True.intro, hE e he⟩) (fun hG => ?_) (fun op1 j1 hj0 hj1 hG => ?_) <;> (conv => whnf))
    | (refine augment_st C hG (by omega) (fun ha hl hG => ?_) (fun hG => ?_) <;> (conv => whnf))
    | (intro (hmx : _ ≤ maxLen); (conv => whnf))
    | (refine is_stf C hG (by first | decide | exact cl_ne) (by omega) (fun hG => ?_) (fun hG => ?_) <;> (conv => whnf))
    | (refine want_kn C (by decide) (by omega) hb ?_; intro hl; (conv => whnf))
    | (refine ⟨rfl, ?_⟩; (conv => whnf))
    | (refine ⟨bdA (by simp only [List.length_append, List.length_cons, List.length_nil, ndsS_len]; omega), ?_⟩; (conv => whnf))
    | exact hQ _ _ hG (by omega)
    | (refine fail_st C (by omega) hG (by intro e he; first | exact hE e he | exact ⟨True.intro, hE e he⟩))
    | (refine tc_self (rd_wr C hl) ?_)
    | (refine ifT_c (fun h => by exfalso; simp at h; omega) (fun h => ?_); (conv => whnf))
    | (refine ifT_c (fun h => ?_) (fun h => by exfalso; simp at h; omega); (conv => whnf))
    | (refine q_eq ?_ ?_ (hQ _ _ hG (by omega)) <;> first | rfl | exact sn_agg rfl | exact sn_row rfl | exact rd_wr C hl)
  refine loop_0 (fun m s => ∃ acc j c ln, AccV acc c ∧ s = ⟨1, [oR sl j, oN nzC, oN (nC 1 ln [] 0 c)]⟩ ∧ j ≤ ts.length ∧ m ≤ f ∧ 2 * acc.length ≤ j ∧ Gd E P (gr ts m (.blockL acc) j)) f [99] rfl ⟨[], _, _, _, .inl ⟨rfl, rfl⟩, rfl, by omega, Nat.le_refl _, by simp only [List.length_nil]; omega, hG⟩ ?_
  rintro m f1 s ⟨acc, j, c, ln, hA, rfl, hj, hmf, hb2, hG⟩
  rcases m with _ | m
  · exact hG.elim
  have ihm := ih m (by omega)
  simp only [gr] at hG
  rcases hA with ⟨rfl, rfl⟩ | ⟨hne, rfl⟩
  rotate_left
  rcases acc with _ | ⟨⟨k2, l2, x2, o2, ks2⟩, acc⟩
  · exact absurd rfl hne
  all_goals
    try simp only [List.length_cons, List.length_nil] at hb2
    (conv => whnf)
    repeat' first
        | (refine has_st C hG (by first | decide | exact cl_ne) (by omega) (fun hl hG => ?_) (fun hG => ?_) <;> (conv => whnf))
        | (refine now_tc C (by omega) ?_; (conv => whnf))
        | (refine want_st C hG (by first | decide | exact cl_ne) (by omega) (by intro e he; first | exact hE e he | exact ⟨True.intro, hE e he⟩) ?_; intro hl hG; (conv => whnf))
        | (refine is_st C hG (by first | decide | exact cl_ne) (by omega) (fun hb hl hG => ?_) (fun hb hG => ?_) <;> (conv => whnf))
        | (refine wantK_st C hG (by decide) (by omega) (by intro e he; first | exact hE e he | exact ⟨True.intro, hE e he⟩) ?_; intro hl hG; (conv => whnf))
        | (refine begins_st C hG (by omega) (fun hG => ?_) (fun hG => ?_) <;> (conv => whnf))
        | (refine kind_st C hG (by decide) (by omega) (fun hl hG => ?_) (fun hG => ?_) <;> (conv => whnf))
        | (refine rul_st ihm.stmt hG (by trivial) rfl (by intro e he; first | exact hE e he | exact ⟨True.intro, hE e he⟩) (by omega) ?_; intro n1 l1 x1 o1 ks1 j1 hp1 hj1 hG; simp only [NT.min] at hp1; (conv => whnf))
        | (refine tal_st ihm.stmt hG (by trivial) rfl (by intro e he; first | exact hE e he | exact ⟨True.intro, hE e he⟩) (by omega) ?_; intro n1 l1 x1 o1 ks1 j1 hp1 hj1 hG; simp only [NT.min] at hp1; (conv => whnf))
        | (refine single_st hG (fun hG => ?_) (fun hG => ?_) <;> (conv => whnf))
        | (refine place_st hG (fun hG => ?_) (fun hG => ?_) <;> (conv => whnf))
        | (refine operator_st C hG (by omega) (by intro e he; first | exact hE e he | exact ⟨True.intro, hE e he⟩) (fun hG => ?_) (fun op1 j1 hj0 hj1 hG => ?_) <;> (conv => whnf))
        | (refine augment_st C hG (by omega) (fun ha hl hG => ?_) (fun hG => ?_) <;> (conv => whnf))
        | (intro (hmx : _ ≤ maxLen); (conv => whnf))
        | (refine is_stf C hG (by first | decide | exact cl_ne) (by omega) (fun hG => ?_) (fun hG => ?_) <;> (conv => whnf))
        | (refine want_kn C (by decide) (by omega) hb ?_; intro hl; (conv => whnf))
        | exact ⟨m, [2], by omega, rfl, _, _, _, _, accV_app rfl, rfl, by omega, by omega, (by simp only [List.length_append, List.length_cons, List.length_nil] at *; omega), hG⟩
        | (refine ⟨rfl, 0, _, rfl, rfl, ?_⟩; (conv => whnf))
        | (refine ⟨rfl, ?_⟩; (conv => whnf))
        | (refine ⟨bdA (by simp only [List.length_append, List.length_cons, List.length_nil, ndsS_len]; omega), ?_⟩; (conv => whnf))
        | exact hQ _ _ hG (by omega)
        | (refine fail_st C (by omega) hG (by intro e he; first | exact hE e he | exact ⟨True.intro, hE e he⟩))
        | (refine tc_self (rd_wr C hl) ?_)
        | (refine ifT_c (fun h => by exfalso; simp at h; omega) (fun h => ?_); (conv => whnf))
        | (refine ifT_c (fun h => ?_) (fun h => by exfalso; simp at h; omega); (conv => whnf))
        | (refine q_eq ?_ ?_ (hQ _ _ hG (by omega)) <;> first | rfl | exact sn_agg rfl | exact sn_row rfl | exact rd_wr C hl)
end
end Can
end Go.Proofs.Ytnkfdkfmdeibfaa
end
section
namespace Go.Proofs.Ytnkfdkfmdeibfaa
namespace Can
open Go Go.RowKit
set_option linter.unusedSimpArgs false
set_option linter.unusedVariables false
set_option maxRecDepth 4000
attribute [local irreducible] TC isT nowT begT placeN
section
variable {Z : TP} {X : Pan} {W : Int → Value} {ts : List PT} {sl : Sl} {f : Nat}
set_option maxHeartbeats 4000000 in
theorem pw_tries (C : PCtx Z X W ts sl) (ih : ∀ g, g ≤ f → PAll Z X W ts sl g) : ∀ (ln : Int), PC Z X W ts sl (f + 1) (.tries ln) 30 [.ptr 0 0, rS (.int .i64 ln)] ans1 := by
  intro ln  i Q R E P hi hG hE hQ
  have ihf := ih f (Nat.le_refl f)
  have hln := C.len
  have hG0 := hG
  simp only [gr] at hG
  refine tc_rG dt_ok (by rfl) (by kernel_rfl) ?_
  conv in (rF _ _).body => reduce
  conv in (rF _ _).res => reduce
  conv => whnf
  repeat' first
    | (refine has_st C hG (by first | decide | exact cl_ne) (by omega) (fun hl hG => ?_) (fun hG => ?_) <;> (conv => whnf))
    | (refine now_tc C (by omega) ?_; (conv => whnf))
    | (refine want_st C hG (by first | decide | exact cl_ne) (by omega) (by intro e he; first | exact hE e he | exact ⟨True.intro, hE e he⟩) ?_; intro hl hG; (conv => whnf))
    | (refine is_st C hG (by first | decide | exact cl_ne) (by omega) (fun hb hl hG => ?_) (fun hb hG => ?_) <;> (conv => whnf))
    | (refine wantK_st C hG (by decide) (by omega) (by intro e he; first | exact hE e he | exact ⟨True.intro, hE e he⟩) ?_; intro hl hG; (conv => whnf))
    | (refine begins_st C hG (by omega) (fun hG => ?_) (fun hG => ?_) <;> (conv => whnf))
    | (refine kind_st C hG (by decide) (by omega) (fun hl hG => ?_) (fun hG => ?_) <;> (conv => whnf))
    | (refine rul_st ihf.block hG (by trivial) rfl (by intro e he; first | exact hE e he | exact ⟨True.intro, hE e he⟩) (by omega) ?_; intro n1 l1 x1 o1 ks1 j1 hp1 hj1 hG; simp only [NT.min] at hp1; (conv => whnf))
    | (refine tal_st ihf.block hG (by trivial) rfl (by intro e he; first | exact hE e he | exact ⟨True.intro, hE e he⟩) (by omega) ?_; intro n1 l1 x1 o1 ks1 j1 hp1 hj1 hG; simp only [NT.min] at hp1; (conv => whnf))
    | (refine single_st hG (fun hG => ?_) (fun hG => ?_) <;> (conv => whnf))
    | (refine place_st hG (fun hG => ?_) (fun hG => ?_) <;> (conv => whnf))
    | (refine operator_st C hG (by omega) (by intro e he; first | exact hE e he | exact ⟨True.intro, hE e he⟩) (fun hG => ?_) (fun op1 j1 hj0 hj1 hG => ?_) <;> (conv => whnf))
    | (refine augment_st C hG (by omega) (fun ha hl hG => ?_) (fun hG => ?_) <;> (conv => whnf))
    | (intro (hmx : _ ≤ maxLen); (conv => whnf))
    | (refine is_stf C hG (by first | decide | exact cl_ne) (by omega) (fun hG => ?_) (fun hG => ?_) <;> (conv => whnf))
    | (refine want_kn C (by decide) (by omega) hb ?_; intro hl; (conv => whnf))
    | (refine ⟨rfl, ?_⟩; (conv => whnf))
    | (refine ⟨bdA (by simp only [List.length_append, List.length_cons, List.length_nil, ndsS_len]; omega), ?_⟩; (conv => whnf))
    | exact hQ _ _ hG (by omega)
    | (refine fail_st C (by omega) hG (by intro e he; first | exact hE e he | exact ⟨True.intro, hE e he⟩))
    | (refine tc_self (rd_wr C hl) ?_)
    | (refine ifT_c (fun h => by exfalso; simp at h; omega) (fun h => ?_); (conv => whnf))
    | (refine ifT_c (fun h => ?_) (fun h => by exfalso; simp at h; omega); (conv => whnf))
    | (refine q_eq ?_ ?_ (hQ _ _ hG (by omega)) <;> first | rfl | exact sn_agg rfl | exact sn_row rfl | exact rd_wr C hl)
  obtain ⟨P2, hP2⟩ : ∃ P2 : List Nd → Nat → Prop, ∀ acc j, P2 acc j ↔ Gd E P (gr ts f (.triesF ln acc) j) := ⟨_, fun _ _ => Iff.rfl⟩
  have hG : Gd E P2 (gr ts f (.triesL [.mk n1 l1 x1 o1 ks1]) j1) := (gd_pb.1 hG).mono (fun _ h => h) fun l j h => (hP2 l j).2 h
  refine loop_1 6 (fun m a s => ∃ acc j b, a = rS (.bool b) ∧ s = ⟨1, [oR sl j, oN nzC, oN (nC 15 ln [] 0 (.own 0 28 5 (ndsS acc)))]⟩ ∧ j ≤ ts.length ∧ m ≤ f ∧ 1 ≤ acc.length ∧ 2 * acc.length ≤ j + 1 ∧ ((b = false ∧ Gd E P2 (gr ts m (.triesL acc) j)) ∨ (b = true ∧ P2 acc j))) f [0] rfl ⟨[.mk n1 l1 x1 o1 ks1], _, false, rfl, rfl, by omega, Nat.le_refl _, Nat.le_refl _, by simp only [List.length_cons, List.length_nil]; omega, .inl ⟨rfl, hG⟩⟩ ?_
  rintro m a f1 s ⟨acc, j, b, rfl, rfl, hj, hmf, hb1, hb2, ⟨rfl, hG⟩ | ⟨rfl, hG⟩⟩
  · rcases m with _ | m
    · exact hG.elim
    have ihm := ih m (by omega)
    simp only [gr] at hG
    (conv => whnf)
    repeat' first
        | (refine has_st C hG (by first | decide | exact cl_ne) (by omega) (fun hl hG => ?_) (fun hG => ?_) <;> (conv => whnf))
        | (refine now_tc C (by omega) ?_; (conv => whnf))
        | (refine want_st C hG (by first | decide | exact cl_ne) (by omega) (by intro e he; first | exact hE e he | exact ⟨True.intro, hE e he⟩) ?_; intro hl hG; (conv => whnf))
        | (refine is_st C hG (by first | decide | exact cl_ne) (by omega) (fun hb hl hG => ?_) (fun hb hG => ?_) <;> (conv => whnf))
        | (refine wantK_st C hG (by decide) (by omega) (by intro e he; first | exact hE e he | exact ⟨True.intro, hE e he⟩) ?_; intro hl hG; (conv => whnf))
        | (refine begins_st C hG (by omega) (fun hG => ?_) (fun hG => ?_) <;> (conv => whnf))
        | (refine kind_st C hG (by decide) (by omega) (fun hl hG => ?_) (fun hG => ?_) <;> (conv => whnf))
        | (refine rul_st ihm.block hG (by trivial) rfl (by intro e he; first | exact hE e he | exact ⟨True.intro, hE e he⟩) (by omega) ?_; intro n1 l1 x1 o1 ks1 j1 hp1 hj1 hG; simp only [NT.min] at hp1; (conv => whnf))
        | (refine tal_st ihm.block hG (by trivial) rfl (by intro e he; first | exact hE e he | exact ⟨True.intro, hE e he⟩) (by omega) ?_; intro n1 l1 x1 o1 ks1 j1 hp1 hj1 hG; simp only [NT.min] at hp1; (conv => whnf))
        | (refine rul_st ihm.expr hG (by trivial) rfl (by intro e he; first | exact hE e he | exact ⟨True.intro, hE e he⟩) (by omega) ?_; intro n1 l1 x1 o1 ks1 j1 hp1 hj1 hG; simp only [NT.min] at hp1; (conv => whnf))
        | (refine tal_st ihm.expr hG (by trivial) rfl (by intro e he; first | exact hE e he | exact ⟨True.intro, hE e he⟩) (by omega) ?_; intro n1 l1 x1 o1 ks1 j1 hp1 hj1 hG; simp only [NT.min] at hp1; (conv => whnf))
        | (refine single_st hG (fun hG => ?_) (fun hG => ?_) <;> (conv => whnf))
        | (refine place_st hG (fun hG => ?_) (fun hG => ?_) <;> (conv => whnf))
        | (refine operator_st C hG (by omega) (by intro e he; first | exact hE e he | exact ⟨True.intro, hE e he⟩) (fun hG => ?_) (fun op1 j1 hj0 hj1 hG => ?_) <;> (conv => whnf))
        | (refine augment_st C hG (by omega) (fun ha hl hG => ?_) (fun hG => ?_) <;> (conv => whnf))
        | (intro (hmx : _ ≤ maxLen); (conv => whnf))
        | (refine is_stf C hG (by first | decide | exact cl_ne) (by omega) (fun hG => ?_) (fun hG => ?_) <;> (conv => whnf))
        | (refine want_kn C (by decide) (by omega) hb ?_; intro hl; (conv => whnf))
        | exact ⟨m, [4], by omega, rfl, acc ++ [Nd.mk 21 (nowT ts j).line [] 0 [Nd.mk n1 l1 x1 o1 ks1]], _, true, rfl, (by rw [ndsS_snoc]; rfl), by omega, by omega, (by simp only [List.length_append, List.length_cons, List.length_nil]; omega), (by simp only [List.length_append, List.length_cons, List.length_nil]; omega), .inr ⟨rfl, hG⟩⟩
        | exact ⟨m, [6], by omega, rfl, acc ++ [_], _, false, rfl, (by rw [ndsS_snoc]; rfl), by omega, by omega, (by simp only [List.length_append, List.length_cons, List.length_nil]; omega), (by simp only [List.length_append, List.length_cons, List.length_nil]; omega), .inl ⟨rfl, hG⟩⟩
        | (refine len1_c hG (by simp [ndsS_len]; try omega) (fun hG => ?_) (fun hG => ?_) <;> (conv => whnf))
        | (refine ifT_c (fun h => by exfalso; simp [ndsS_len] at h; first | omega | (subst h; simp at hb1)) (fun h => ?_); (conv => whnf))
        | (refine ⟨rfl, ?_⟩; (conv => whnf))
        | (refine ⟨bdA (by simp only [List.length_append, List.length_cons, List.length_nil, ndsS_len]; omega), ?_⟩; (conv => whnf))
        | exact hQ _ _ hG (by omega)
        | (refine fail_st C (by omega) hG (by intro e he; first | exact hE e he | exact ⟨True.intro, hE e he⟩))
        | (refine tc_self (rd_wr C hl) ?_)
        | (refine ifT_c (fun h => by exfalso; simp at h; omega) (fun h => ?_); (conv => whnf))
        | (refine ifT_c (fun h => ?_) (fun h => by exfalso; simp at h; omega); (conv => whnf))
        | (refine q_eq ?_ ?_ (hQ _ _ hG (by omega)) <;> first | rfl | exact sn_agg rfl | exact sn_row rfl | exact rd_wr C hl)
        | (have hG := (hP2 _ _).1 hG; rcases f with _ | f; exact hG.elim; have ihf2 := ih f (by omega); simp only [gr] at hG)
        | (refine rul_st ihf2.block hG (by trivial) rfl (by intro e he; first | exact hE e he | exact ⟨True.intro, hE e he⟩) (by omega) ?_; intro n1 l1 x1 o1 ks1 j1 hp1 hj1 hG; simp only [NT.min] at hp1; (conv => whnf))
  · have hG := (hP2 _ _).1 hG
    rcases f with _ | f
    · exact hG.elim
    simp only [gr] at hG
    have ihm := ih f (by omega)
    (conv => whnf)
    repeat' first
        | (refine has_st C hG (by first | decide | exact cl_ne) (by omega) (fun hl hG => ?_) (fun hG => ?_) <;> (conv => whnf))
        | (refine now_tc C (by omega) ?_; (conv => whnf))
        | (refine want_st C hG (by first | decide | exact cl_ne) (by omega) (by intro e he; first | exact hE e he | exact ⟨True.intro, hE e he⟩) ?_; intro hl hG; (conv => whnf))
        | (refine is_st C hG (by first | decide | exact cl_ne) (by omega) (fun hb hl hG => ?_) (fun hb hG => ?_) <;> (conv => whnf))
        | (refine wantK_st C hG (by decide) (by omega) (by intro e he; first | exact hE e he | exact ⟨True.intro, hE e he⟩) ?_; intro hl hG; (conv => whnf))
        | (refine begins_st C hG (by omega) (fun hG => ?_) (fun hG => ?_) <;> (conv => whnf))
        | (refine kind_st C hG (by decide) (by omega) (fun hl hG => ?_) (fun hG => ?_) <;> (conv => whnf))
        | (refine rul_st ihm.block hG (by trivial) rfl (by intro e he; first | exact hE e he | exact ⟨True.intro, hE e he⟩) (by omega) ?_; intro n1 l1 x1 o1 ks1 j1 hp1 hj1 hG; simp only [NT.min] at hp1; (conv => whnf))
        | (refine tal_st ihm.block hG (by trivial) rfl (by intro e he; first | exact hE e he | exact ⟨True.intro, hE e he⟩) (by omega) ?_; intro n1 l1 x1 o1 ks1 j1 hp1 hj1 hG; simp only [NT.min] at hp1; (conv => whnf))
        | (refine single_st hG (fun hG => ?_) (fun hG => ?_) <;> (conv => whnf))
        | (refine place_st hG (fun hG => ?_) (fun hG => ?_) <;> (conv => whnf))
        | (refine operator_st C hG (by omega) (by intro e he; first | exact hE e he | exact ⟨True.intro, hE e he⟩) (fun hG => ?_) (fun op1 j1 hj0 hj1 hG => ?_) <;> (conv => whnf))
        | (refine augment_st C hG (by omega) (fun ha hl hG => ?_) (fun hG => ?_) <;> (conv => whnf))
        | (intro (hmx : _ ≤ maxLen); (conv => whnf))
        | (refine is_stf C hG (by first | decide | exact cl_ne) (by omega) (fun hG => ?_) (fun hG => ?_) <;> (conv => whnf))
        | (refine want_kn C (by decide) (by omega) hb ?_; intro hl; (conv => whnf))
        | (refine len1_c hG (by simp [ndsS_len]; try omega) (fun hG => ?_) (fun hG => ?_) <;> (conv => whnf))
        | (refine ifT_c (fun h => by exfalso; simp [ndsS_len] at h; first | omega | (subst h; simp at hb1)) (fun h => ?_); (conv => whnf))
        | (refine ⟨rfl, ?_⟩; (conv => whnf))
        | (refine ⟨bdA (by simp only [List.length_append, List.length_cons, List.length_nil, ndsS_len]; omega), ?_⟩; (conv => whnf))
        | exact hQ _ _ hG (by omega)
        | (refine fail_st C (by omega) hG (by intro e he; first | exact hE e he | exact ⟨True.intro, hE e he⟩))
        | (refine tc_self (rd_wr C hl) ?_)
        | (refine ifT_c (fun h => by exfalso; simp at h; omega) (fun h => ?_); (conv => whnf))
        | (refine ifT_c (fun h => ?_) (fun h => by exfalso; simp at h; omega); (conv => whnf))
        | (refine q_eq ?_ ?_ (hQ _ _ hG (by omega)) <;> first | rfl | exact sn_agg rfl | exact sn_row rfl | exact rd_wr C hl)
end
end Can
end Go.Proofs.Ytnkfdkfmdeibfaa
end
section
namespace Go.Proofs.Ytnkfdkfmdeibfaa
namespace Can
open Go Go.RowKit
set_option linter.unusedSimpArgs false
set_option linter.unusedVariables false
set_option maxRecDepth 4000
attribute [local irreducible] TC isT nowT begT placeN
section
variable {Z : TP} {X : Pan} {W : Int → Value} {ts : List PT} {sl : Sl} {f : Nat}
set_option maxHeartbeats 4000000 in
theorem pw_atom (C : PCtx Z X W ts sl) (ih : ∀ g, g ≤ f → PAll Z X W ts sl g) : PC Z X W ts sl (f + 1) .atom 52 [.ptr 0 0] ans1 := by
  intro i Q R E P hi hG hE hQ
  have ihf := ih f (Nat.le_refl f)
  have hln := C.len
  simp only [gr] at hG
  refine tc_rG dt_ok (by rfl) (by kernel_rfl) ?_
  conv in (rF _ _).body => reduce
  conv in (rF _ _).res => reduce
  conv => whnf
  refine now_tc C (by omega) ?_
  obtain ⟨t, ht⟩ : ∃ t, nowT ts i = t := ⟨_, rfl⟩
  have hlk : (nowT ts i).kind ≠ 0 → i < ts.length := kd_lt
  rw [ht] at hG hlk ⊢
  obtain ⟨kd, lt, xt⟩ := t
  by_cases hk : 4 ≤ kd ∧ kd ≤ 7
  · have hl : i < ts.length := hlk (by show kd ≠ 0; omega)
    rw [if_pos hk] at hG
    obtain rfl | rfl | rfl | rfl : kd = 4 ∨ kd = 5 ∨ kd = 6 ∨ kd = 7 := by omega
    all_goals
      (conv => whnf)
      refine leaf_tc hk.1 hk.2 ?_
      (conv => whnf)
      repeat (refine ⟨rfl, ?_⟩; (conv => whnf))
      exact q_eq rfl (rd_wr C hl) (hQ _ _ hG (by omega))
  · rw [if_neg hk] at hG
    (conv => whnf)
    repeat' first
        | (refine has_st C hG (by first | decide | exact cl_ne) (by omega) (fun hl hG => ?_) (fun hG => ?_) <;> (conv => whnf))
        | (refine now_tc C (by omega) ?_; (conv => whnf))
        | (refine want_st C hG (by first | decide | exact cl_ne) (by omega) (by intro e he; first | exact hE e he | exact ⟨True.intro, hE e he⟩) ?_; intro hl hG; (conv => whnf))
        | (refine is_st C hG (by first | decide | exact cl_ne) (by omega) (fun hb hl hG => ?_) (fun hb hG => ?_) <;> (conv => whnf))
        | (refine wantK_st C hG (by decide) (by omega) (by intro e he; first | exact hE e he | exact ⟨True.intro, hE e he⟩) ?_; intro hl hG; (conv => whnf))
        | (refine begins_st C hG (by omega) (fun hG => ?_) (fun hG => ?_) <;> (conv => whnf))
        | (refine kind_st C hG (by decide) (by omega) (fun hl hG => ?_) (fun hG => ?_) <;> (conv => whnf))
        | (refine rul_st ihf.exprs hG (by trivial) rfl (by intro e he; first | exact hE e he | exact ⟨True.intro, hE e he⟩) (by omega) ?_; intro n1 l1 x1 o1 ks1 j1 hp1 hj1 hG; simp only [NT.min] at hp1; (conv => whnf))
        | (refine tal_st ihf.exprs hG (by trivial) rfl (by intro e he; first | exact hE e he | exact ⟨True.intro, hE e he⟩) (by omega) ?_; intro n1 l1 x1 o1 ks1 j1 hp1 hj1 hG; simp only [NT.min] at hp1; (conv => whnf))
        | (refine rul_st (ihf.list _) hG (by trivial) rfl (by intro e he; first | exact hE e he | exact ⟨True.intro, hE e he⟩) (by omega) ?_; intro n1 l1 x1 o1 ks1 j1 hp1 hj1 hG; simp only [NT.min] at hp1; (conv => whnf))
        | (refine tal_st (ihf.list _) hG (by trivial) rfl (by intro e he; first | exact hE e he | exact ⟨True.intro, hE e he⟩) (by omega) ?_; intro n1 l1 x1 o1 ks1 j1 hp1 hj1 hG; simp only [NT.min] at hp1; (conv => whnf))
        | (refine rul_st (ihf.braces _) hG (by trivial) rfl (by intro e he; first | exact hE e he | exact ⟨True.intro, hE e he⟩) (by omega) ?_; intro n1 l1 x1 o1 ks1 j1 hp1 hj1 hG; simp only [NT.min] at hp1; (conv => whnf))
        | (refine tal_st (ihf.braces _) hG (by trivial) rfl (by intro e he; first | exact hE e he | exact ⟨True.intro, hE e he⟩) (by omega) ?_; intro n1 l1 x1 o1 ks1 j1 hp1 hj1 hG; simp only [NT.min] at hp1; (conv => whnf))
        | (refine single_st hG (fun hG => ?_) (fun hG => ?_) <;> (conv => whnf))
        | (refine place_st hG (fun hG => ?_) (fun hG => ?_) <;> (conv => whnf))
        | (refine operator_st C hG (by omega) (by intro e he; first | exact hE e he | exact ⟨True.intro, hE e he⟩) (fun hG => ?_) (fun op1 j1 hj0 hj1 hG => ?_) <;> (conv => whnf))
        | (refine augment_st C hG (by omega) (fun ha hl hG => ?_) (fun hG => ?_) <;> (conv => whnf))
        | (intro (hmx : _ ≤ maxLen); (conv => whnf))
        | (refine is_stf C hG (by first | decide | exact cl_ne) (by omega) (fun hG => ?_) (fun hG => ?_) <;> (conv => whnf))
        | (refine want_kn C (by decide) (by omega) hb ?_; intro hl; (conv => whnf))
        | (refine ⟨rfl, ?_⟩; (conv => whnf))
        | (refine ⟨bdA (by simp only [List.length_append, List.length_cons, List.length_nil, ndsS_len]; omega), ?_⟩; (conv => whnf))
        | exact hQ _ _ hG (by omega)
        | (refine fail_st C (by omega) hG (by intro e he; first | exact hE e he | exact ⟨True.intro, hE e he⟩))
        | (refine tc_self (rd_wr C hl) ?_)
        | (refine ifT_c (fun h => by exfalso; simp at h; omega) (fun h => ?_); (conv => whnf))
        | (refine ifT_c (fun h => ?_) (fun h => by exfalso; simp at h; omega); (conv => whnf))
        | (refine q_eq ?_ ?_ (hQ _ _ hG (by omega)) <;> first | rfl | exact sn_agg rfl | exact sn_row rfl | exact rd_wr C hl)
set_option maxHeartbeats 4000000 in
theorem pw_maybe (C : PCtx Z X W ts sl) (ih : ∀ g, g ≤ f → PAll Z X W ts sl g) : ∀ (k : Nat) (ln : Int) (all : Bool), PC Z X W ts sl (f + 1) (.maybe k ln all) 41 [.ptr 0 0, rS (.int .i64 (k : Nat)), rS (.int .i64 ln), rS (.bool all)] ans1 := by
  intro k ln all i Q R E P hi hG hE hQ
  have ihf := ih f (Nat.le_refl f)
  have hln := C.len
  simp only [gr] at hG
  cases all
  · simp only [Bool.false_eq_true, if_false] at hG
    refine tc_rG dt_ok (by rfl) (by kernel_rfl) ?_
    conv in (rF _ _).body => reduce
    conv in (rF _ _).res => reduce
    conv => whnf
    repeat' first
        | (refine has_st C hG (by first | decide | exact cl_ne) (by omega) (fun hl hG => ?_) (fun hG => ?_) <;> (conv => whnf))
        | (refine now_tc C (by omega) ?_; (conv => whnf))
        | (refine want_st C hG (by first | decide | exact cl_ne) (by omega) (by intro e he; first | exact hE e he | exact ⟨True.intro, hE e he⟩) ?_; intro hl hG; (conv => whnf))
        | (refine is_st C hG (by first | decide | exact cl_ne) (by omega) (fun hb hl hG => ?_) (fun hb hG => ?_) <;> (conv => whnf))
        | (refine wantK_st C hG (by decide) (by omega) (by intro e he; first | exact hE e he | exact ⟨True.intro, hE e he⟩) ?_; intro hl hG; (conv => whnf))
        | (refine begins_st C hG (by omega) (fun hG => ?_) (fun hG => ?_) <;> (conv => whnf))
        | (refine kind_st C hG (by decide) (by omega) (fun hl hG => ?_) (fun hG => ?_) <;> (conv => whnf))
        | (refine rul_st ihf.exprs hG (by trivial) rfl (by intro e he; first | exact hE e he | exact ⟨True.intro, hE e he⟩) (by omega) ?_; intro n1 l1 x1 o1 ks1 j1 hp1 hj1 hG; simp only [NT.min] at hp1; (conv => whnf))
        | (refine tal_st ihf.exprs hG (by trivial) rfl (by intro e he; first | exact hE e he | exact ⟨True.intro, hE e he⟩) (by omega) ?_; intro n1 l1 x1 o1 ks1 j1 hp1 hj1 hG; simp only [NT.min] at hp1; (conv => whnf))
        | (refine rul_st ihf.expr hG (by trivial) rfl (by intro e he; first | exact hE e he | exact ⟨True.intro, hE e he⟩) (by omega) ?_; intro n1 l1 x1 o1 ks1 j1 hp1 hj1 hG; simp only [NT.min] at hp1; (conv => whnf))
        | (refine tal_st ihf.expr hG (by trivial) rfl (by intro e he; first | exact hE e he | exact ⟨True.intro, hE e he⟩) (by omega) ?_; intro n1 l1 x1 o1 ks1 j1 hp1 hj1 hG; simp only [NT.min] at hp1; (conv => whnf))
        | (refine single_st hG (fun hG => ?_) (fun hG => ?_) <;> (conv => whnf))
        | (refine place_st hG (fun hG => ?_) (fun hG => ?_) <;> (conv => whnf))
        | (refine operator_st C hG (by omega) (by intro e he; first | exact hE e he | exact ⟨True.intro, hE e he⟩) (fun hG => ?_) (fun op1 j1 hj0 hj1 hG => ?_) <;> (conv => whnf))
        | (refine augment_st C hG (by omega) (fun ha hl hG => ?_) (fun hG => ?_) <;> (conv => whnf))
        | (intro (hmx : _ ≤ maxLen); (conv => whnf))
        | (refine is_stf C hG (by first | decide | exact cl_ne) (by omega) (fun hG => ?_) (fun hG => ?_) <;> (conv => whnf))
        | (refine want_kn C (by decide) (by omega) hb ?_; intro hl; (conv => whnf))
        | (refine ⟨rfl, ?_⟩; (conv => whnf))
        | (refine ⟨bdA (by simp only [List.length_append, List.length_cons, List.length_nil, ndsS_len]; omega), ?_⟩; (conv => whnf))
        | exact hQ _ _ hG (by omega)
        | (refine fail_st C (by omega) hG (by intro e he; first | exact hE e he | exact ⟨True.intro, hE e he⟩))
        | (refine tc_self (rd_wr C hl) ?_)
        | (refine ifT_c (fun h => by exfalso; simp at h; omega) (fun h => ?_); (conv => whnf))
        | (refine ifT_c (fun h => ?_) (fun h => by exfalso; simp at h; omega); (conv => whnf))
        | (refine q_eq ?_ ?_ (hQ _ _ hG (by omega)) <;> first | rfl | exact sn_agg rfl | exact sn_row rfl | exact rd_wr C hl)
  · simp only [if_true] at hG
    refine tc_rG dt_ok (by rfl) (by kernel_rfl) ?_
    conv in (rF _ _).body => reduce
    conv in (rF _ _).res => reduce
    conv => whnf
    repeat' first
        | (refine has_st C hG (by first | decide | exact cl_ne) (by omega) (fun hl hG => ?_) (fun hG => ?_) <;> (conv => whnf))
        | (refine now_tc C (by omega) ?_; (conv => whnf))
        | (refine want_st C hG (by first | decide | exact cl_ne) (by omega) (by intro e he; first | exact hE e he | exact ⟨True.intro, hE e he⟩) ?_; intro hl hG; (conv => whnf))
        | (refine is_st C hG (by first | decide | exact cl_ne) (by omega) (fun hb hl hG => ?_) (fun hb hG => ?_) <;> (conv => whnf))
        | (refine wantK_st C hG (by decide) (by omega) (by intro e he; first | exact hE e he | exact ⟨True.intro, hE e he⟩) ?_; intro hl hG; (conv => whnf))
        | (refine begins_st C hG (by omega) (fun hG => ?_) (fun hG => ?_) <;> (conv => whnf))
        | (refine kind_st C hG (by decide) (by omega) (fun hl hG => ?_) (fun hG => ?_) <;> (conv => whnf))
        | (refine rul_st ihf.exprs hG (by trivial) rfl (by intro e he; first | exact hE e he | exact ⟨True.intro, hE e he⟩) (by omega) ?_; intro n1 l1 x1 o1 ks1 j1 hp1 hj1 hG; simp only [NT.min] at hp1; (conv => whnf))
        | (refine tal_st ihf.exprs hG (by trivial) rfl (by intro e he; first | exact hE e he | exact ⟨True.intro, hE e he⟩) (by omega) ?_; intro n1 l1 x1 o1 ks1 j1 hp1 hj1 hG; simp only [NT.min] at hp1; (conv => whnf))
        | (refine rul_st ihf.expr hG (by trivial) rfl (by intro e he; first | exact hE e he | exact ⟨True.intro, hE e he⟩) (by omega) ?_; intro n1 l1 x1 o1 ks1 j1 hp1 hj1 hG; simp only [NT.min] at hp1; (conv => whnf))
        | (refine tal_st ihf.expr hG (by trivial) rfl (by intro e he; first | exact hE e he | exact ⟨True.intro, hE e he⟩) (by omega) ?_; intro n1 l1 x1 o1 ks1 j1 hp1 hj1 hG; simp only [NT.min] at hp1; (conv => whnf))
        | (refine single_st hG (fun hG => ?_) (fun hG => ?_) <;> (conv => whnf))
        | (refine place_st hG (fun hG => ?_) (fun hG => ?_) <;> (conv => whnf))
        | (refine operator_st C hG (by omega) (by intro e he; first | exact hE e he | exact ⟨True.intro, hE e he⟩) (fun hG => ?_) (fun op1 j1 hj0 hj1 hG => ?_) <;> (conv => whnf))
        | (refine augment_st C hG (by omega) (fun ha hl hG => ?_) (fun hG => ?_) <;> (conv => whnf))
        | (intro (hmx : _ ≤ maxLen); (conv => whnf))
        | (refine is_stf C hG (by first | decide | exact cl_ne) (by omega) (fun hG => ?_) (fun hG => ?_) <;> (conv => whnf))
        | (refine want_kn C (by decide) (by omega) hb ?_; intro hl; (conv => whnf))
        | (refine ⟨rfl, ?_⟩; (conv => whnf))
        | (refine ⟨bdA (by simp only [List.length_append, List.length_cons, List.length_nil, ndsS_len]; omega), ?_⟩; (conv => whnf))
        | exact hQ _ _ hG (by omega)
        | (refine fail_st C (by omega) hG (by intro e he; first | exact hE e he | exact ⟨True.intro, hE e he⟩))
        | (refine tc_self (rd_wr C hl) ?_)
        | (refine ifT_c (fun h => by exfalso; simp at h; omega) (fun h => ?_); (conv => whnf))
        | (refine ifT_c (fun h => ?_) (fun h => by exfalso; simp at h; omega); (conv => whnf))
        | (refine q_eq ?_ ?_ (hQ _ _ hG (by omega)) <;> first | rfl | exact sn_agg rfl | exact sn_row rfl | exact rd_wr C hl)
end
end Can
end Go.Proofs.Ytnkfdkfmdeibfaa
end
section
namespace Go.Proofs.Ytnkfdkfmdeibfaa
namespace Can
open Go Go.RowKit
set_option linter.unusedSimpArgs false
set_option linter.unusedVariables false
set_option maxRecDepth 4000
attribute [local irreducible] TC isT nowT begT placeN
section
variable {Z : TP} {X : Pan} {W : Int → Value} {ts : List PT} {sl : Sl} {f : Nat}
theorem pall0 : PAll Z X W ts sl 0 := ⟨(by intros; intro i Q R E P hi hG hE hQ; exact hG.elim), (by intros; intro i Q R E P hi hG hE hQ; exact hG.elim), (by intros; intro i Q R E P hi hG hE hQ; exact hG.elim), (by intros; intro i Q R E P hi hG hE hQ; exact hG.elim), (by intros; intro i Q R E P hi hG hE hQ; exact hG.elim), (by intros; intro i Q R E P hi hG hE hQ; exact hG.elim), (by intros; intro i Q R E P hi hG hE hQ; exact hG.elim), (by intros; intro i Q R E P hi hG hE hQ; exact hG.elim), (by intros; intro i Q R E P hi hG hE hQ; exact hG.elim), (by intros; intro i Q R E P hi hG hE hQ; exact hG.elim), (by intros; intro i Q R E P hi hG hE hQ; exact hG.elim), (by intros; intro i Q R E P hi hG hE hQ; exact hG.elim), (by intros; intro i Q R E P hi hG hE hQ; exact hG.elim), (by intros; intro i Q R E P hi hG hE hQ; exact hG.elim), (by intros; intro i Q R E P hi hG hE hQ; exact hG.elim), (by intros; intro i Q R E P hi hG hE hQ; exact hG.elim), (by intros; intro i Q R E P hi hG hE hQ; exact hG.elim), (by intros; intro i Q R E P hi hG hE hQ; exact hG.elim), (by intros; intro i Q R E P hi hG hE hQ; exact hG.elim), (by intros; intro i Q R E P hi hG hE hQ; exact hG.elim), (by intros; intro i Q R E P hi hG hE hQ; exact hG.elim), (by intros; intro i Q R E P hi hG hE hQ; exact hG.elim), (by intros; intro i Q R E P hi hG hE hQ; exact hG.elim), (by intros; intro i Q R E P hi hG hE hQ; exact hG.elim), (by intros; intro i Q R E P hi hG hE hQ; exact hG.elim), (by intros; intro i Q R E P hi hG hE hQ; exact hG.elim), (by intros; intro i Q R E P hi hG hE hQ; exact hG.elim), (by intros; intro i Q R E P hi hG hE hQ; exact hG.elim)⟩
theorem palls (C : PCtx Z X W ts sl) (ih : ∀ g, g ≤ f → PAll Z X W ts sl g) : PAll Z X W ts sl (f + 1) := ⟨pw_expr C ih, pw_or C ih, pw_and C ih, pw_not C ih, pw_compare C ih, pw_arith C ih, pw_term C ih, pw_factor C ih, pw_primary C ih, pw_atom C ih, pw_exprs C ih, pw_one C ih, pw_places C ih, pw_simple C ih, pw_plain C ih, pw_value C ih, pw_block C ih, pw_stmt C ih, pw_params C ih, pw_row C ih, pw_index C ih, pw_clauses C ih, pw_list C ih, pw_braces C ih, pw_names C ih, pw_maybe C ih, pw_ifs C ih, pw_tries C ih⟩
theorem pall (C : PCtx Z X W ts sl) : ∀ f, PAll Z X W ts sl f := by
  intro f
  induction f using Nat.strongRecOn with
  | _ f ih =>
    cases f with
    | zero => exact pall0
    | succ f => exact palls C fun g hg => ih g (by omega)
end
end Can
end Go.Proofs.Ytnkfdkfmdeibfaa
end
