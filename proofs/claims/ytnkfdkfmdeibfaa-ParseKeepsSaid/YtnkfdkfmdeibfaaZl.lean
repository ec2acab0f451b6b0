/- Parse, the program: its rules, as runs over trees. (Printed by tools/genpw.py.). Parse, the program: its rules, as runs over trees. (Printed by tools/genpw.py.). Parse, the program: its rules, as runs over trees. (Printed by tools/genpw.py.). Parse, the program: its rules, as runs over trees. (Printed by tools/genpw.py.). -/
import Derived.Test.YtnkfdkfmdeibfaaZk
section
namespace Go.Proofs.Ytnkfdkfmdeibfaa
namespace Can
open Go Go.RowKit
set_option linter.unusedSimpArgs false
set_option linter.unusedVariables false
set_option maxRecDepth 4000
attribute [local irreducible] TC isT nowT begT placeN
section
variable {Z : TP} {X : Pan} {W : Int → Value} {ts : List PT} {sl : Sl} {f : Nat}
set_option maxHeartbeats 4000000 in
theorem pw_expr (C : PCtx Z X W ts sl) (ih : ∀ g, g ≤ f → PAll Z X W ts sl g) : PC Z X W ts sl (f + 1) .expr 22 [.ptr 0 0] ans1 := by
  intro   i Q R E P hi hG hE hQ
  have ihf := ih f (Nat.le_refl f)
  have hln := C.len
  have hG0 := hG
  simp only [gr] at hG
  refine tc_rG dt_ok (by rfl) (by kernel_rfl) ?_
  conv in (rF _ _).body => reduce
  conv in (rF _ _).res => reduce
  conv => whnf
  repeat' first
    | (refine has_st C hG (by first | decide | exact cl_ne) (by omega) (fun hl hG => ?_) (fun hG => ?_) <;> (conv => whnf))
    | (refine now_tc C (by omega) ?_; (conv => whnf))
    | (refine want_st C hG (by first | decide | exact cl_ne) (by omega) (by intro e he; first | exact hE e he | exact ⟨True.intro, hE e he⟩) ?_; intro hl hG; (conv => whnf))
    | (refine is_st C hG (by first | decide | exact cl_ne) (by omega) (fun hb hl hG => ?_) (fun hb hG => ?_) <;> (conv => whnf))
    | (refine wantK_st C hG (by decide) (by omega) (by intro e he; first | exact hE e he | exact ⟨True.intro, hE e he⟩) ?_; intro hl hG; (conv => whnf))
    | (refine begins_st C hG (by omega) (fun hG => ?_) (fun hG => ?_) <;> (conv => whnf))
    | (refine kind_st C hG (by decide) (by omega) (fun hl hG => ?_) (fun hG => ?_) <;> (conv => whnf))
    | (refine rul_st (ihf.params _ _ (by decide)) hG (by trivial) rfl (by intro e he; first | exact hE e he | exact ⟨True.intro, hE e he⟩) (by omega) ?_; intro n1 l1 x1 o1 ks1 j1 hp1 hj1 hG; simp only [NT.min] at hp1; (conv => whnf))
    | (refine tal_st (ihf.params _ _ (by decide)) hG (by trivial) rfl (by intro e he; first | exact hE e he | exact ⟨True.intro, hE e he⟩) (by omega) ?_; intro n1 l1 x1 o1 ks1 j1 hp1 hj1 hG; simp only [NT.min] at hp1; (conv => whnf))
    | (refine rul_st ihf.expr hG (by trivial) rfl (by intro e he; first | exact hE e he | exact ⟨True.intro, hE e he⟩) (by omega) ?_; intro n1 l1 x1 o1 ks1 j1 hp1 hj1 hG; simp only [NT.min] at hp1; (conv => whnf))
    | (refine tal_st ihf.expr hG (by trivial) rfl (by intro e he; first | exact hE e he | exact ⟨True.intro, hE e he⟩) (by omega) ?_; intro n1 l1 x1 o1 ks1 j1 hp1 hj1 hG; simp only [NT.min] at hp1; (conv => whnf))
    | (refine rul_st ihf.or_ hG (by trivial) rfl (by intro e he; first | exact hE e he | exact ⟨True.intro, hE e he⟩) (by omega) ?_; intro n1 l1 x1 o1 ks1 j1 hp1 hj1 hG; simp only [NT.min] at hp1; (conv => whnf))
    | (refine tal_st ihf.or_ hG (by trivial) rfl (by intro e he; first | exact hE e he | exact ⟨True.intro, hE e he⟩) (by omega) ?_; intro n1 l1 x1 o1 ks1 j1 hp1 hj1 hG; simp only [NT.min] at hp1; (conv => whnf))
    | (refine single_st hG (fun hG => ?_) (fun hG => ?_) <;> (conv => whnf))
    | (refine place_st hG (fun hG => ?_) (fun hG => ?_) <;> (conv => whnf))
    | (refine operator_st C hG (by omega) (by intro e he; first | exact hE e he | exact ⟨True.intro, hE e he⟩) (fun hG => ?_) (fun op1 j1 hj0 hj1 hG => ?_) <;> (conv => whnf))
    | (refine augment_st C hG (by omega) (fun ha hl hG => ?_) (fun hG => ?_) <;> (conv => whnf))
    | (intro (hmx : _ ≤ maxLen); (conv => whnf))
    | (refine is_stf C hG (by first | decide | exact cl_ne) (by omega) (fun hG => ?_) (fun hG => ?_) <;> (conv => whnf))
    | (refine want_kn C (by decide) (by omega) hb ?_; intro hl; (conv => whnf))
    | (refine ⟨rfl, ?_⟩; (conv => whnf))
    | (refine ⟨bdA (by simp only [List.length_append, List.length_cons, List.length_nil, ndsS_len]; omega), ?_⟩; (conv => whnf))
    | exact hQ _ _ hG (by omega)
    | (refine fail_st C (by omega) hG (by intro e he; first | exact hE e he | exact ⟨True.intro, hE e he⟩))
    | (refine tc_self (rd_wr C hl) ?_)
    | (refine ifT_c (fun h => by exfalso; simp at h; omega) (fun h => ?_); (conv => whnf))
    | (refine ifT_c (fun h => ?_) (fun h => by exfalso; simp at h; omega); (conv => whnf))
    | (refine q_eq ?_ ?_ (hQ _ _ hG (by omega)) <;> first | rfl | exact sn_agg rfl | exact sn_row rfl | exact rd_wr C hl)
set_option maxHeartbeats 4000000 in
theorem pw_not (C : PCtx Z X W ts sl) (ih : ∀ g, g ≤ f → PAll Z X W ts sl g) : PC Z X W ts sl (f + 1) .not 64 [.ptr 0 0] ans1 := by
  intro   i Q R E P hi hG hE hQ
  have ihf := ih f (Nat.le_refl f)
  have hln := C.len
  have hG0 := hG
  simp only [gr] at hG
  refine tc_rG dt_ok (by rfl) (by kernel_rfl) ?_
  conv in (rF _ _).body => reduce
  conv in (rF _ _).res => reduce
  conv => whnf
  repeat' first
    | (refine has_st C hG (by first | decide | exact cl_ne) (by omega) (fun hl hG => ?_) (fun hG => ?_) <;> (conv => whnf))
    | (refine now_tc C (by omega) ?_; (conv => whnf))
    | (refine want_st C hG (by first | decide | exact cl_ne) (by omega) (by intro e he; first | exact hE e he | exact ⟨True.intro, hE e he⟩) ?_; intro hl hG; (conv => whnf))
    | (refine is_st C hG (by first | decide | exact cl_ne) (by omega) (fun hb hl hG => ?_) (fun hb hG => ?_) <;> (conv => whnf))
    | (refine wantK_st C hG (by decide) (by omega) (by intro e he; first | exact hE e he | exact ⟨True.intro, hE e he⟩) ?_; intro hl hG; (conv => whnf))
    | (refine begins_st C hG (by omega) (fun hG => ?_) (fun hG => ?_) <;> (conv => whnf))
    | (refine kind_st C hG (by decide) (by omega) (fun hl hG => ?_) (fun hG => ?_) <;> (conv => whnf))
    | (refine rul_st ihf.not_ hG (by trivial) rfl (by intro e he; first | exact hE e he | exact ⟨True.intro, hE e he⟩) (by omega) ?_; intro n1 l1 x1 o1 ks1 j1 hp1 hj1 hG; simp only [NT.min] at hp1; (conv => whnf))
    | (refine tal_st ihf.not_ hG (by trivial) rfl (by intro e he; first | exact hE e he | exact ⟨True.intro, hE e he⟩) (by omega) ?_; intro n1 l1 x1 o1 ks1 j1 hp1 hj1 hG; simp only [NT.min] at hp1; (conv => whnf))
    | (refine rul_st ihf.compare hG (by trivial) rfl (by intro e he; first | exact hE e he | exact ⟨True.intro, hE e he⟩) (by omega) ?_; intro n1 l1 x1 o1 ks1 j1 hp1 hj1 hG; simp only [NT.min] at hp1; (conv => whnf))
    | (refine tal_st ihf.compare hG (by trivial) rfl (by intro e he; first | exact hE e he | exact ⟨True.intro, hE e he⟩) (by omega) ?_; intro n1 l1 x1 o1 ks1 j1 hp1 hj1 hG; simp only [NT.min] at hp1; (conv => whnf))
    | (refine single_st hG (fun hG => ?_) (fun hG => ?_) <;> (conv => whnf))
    | (refine place_st hG (fun hG => ?_) (fun hG => ?_) <;> (conv => whnf))
    | (refine operator_st C hG (by omega) (by intro e he; first | exact hE e he | exact ⟨True.intro, hE e he⟩) (fun hG => ?_) (fun op1 j1 hj0 hj1 hG => ?_) <;> (conv => whnf))
    | (refine augment_st C hG (by omega) (fun ha hl hG => ?_) (fun hG => ?_) <;> (conv => whnf))
    | (intro (hmx : _ ≤ maxLen); (conv => whnf))
    | (refine is_stf C hG (by first | decide | exact cl_ne) (by omega) (fun hG => ?_) (fun hG => ?_) <;> (conv => whnf))
    | (refine want_kn C (by decide) (by omega) hb ?_; intro hl; (conv => whnf))
    | (refine ⟨rfl, ?_⟩; (conv => whnf))
    | (refine ⟨bdA (by simp only [List.length_append, List.length_cons, List.length_nil, ndsS_len]; omega), ?_⟩; (conv => whnf))
    | exact hQ _ _ hG (by omega)
    | (refine fail_st C (by omega) hG (by intro e he; first | exact hE e he | exact ⟨True.intro, hE e he⟩))
    | (refine tc_self (rd_wr C hl) ?_)
    | (refine ifT_c (fun h => by exfalso; simp at h; omega) (fun h => ?_); (conv => whnf))
    | (refine ifT_c (fun h => ?_) (fun h => by exfalso; simp at h; omega); (conv => whnf))
    | (refine q_eq ?_ ?_ (hQ _ _ hG (by omega)) <;> first | rfl | exact sn_agg rfl | exact sn_row rfl | exact rd_wr C hl)
set_option maxHeartbeats 4000000 in
theorem pw_factor (C : PCtx Z X W ts sl) (ih : ∀ g, g ≤ f → PAll Z X W ts sl g) : PC Z X W ts sl (f + 1) .factor 87 [.ptr 0 0] ans1 := by
  intro   i Q R E P hi hG hE hQ
  have ihf := ih f (Nat.le_refl f)
  have hln := C.len
  have hG0 := hG
  simp only [gr] at hG
  refine tc_rG dt_ok (by rfl) (by kernel_rfl) ?_
  conv in (rF _ _).body => reduce
  conv in (rF _ _).res => reduce
  conv => whnf
  repeat' first
    | (refine has_st C hG (by first | decide | exact cl_ne) (by omega) (fun hl hG => ?_) (fun hG => ?_) <;> (conv => whnf))
    | (refine now_tc C (by omega) ?_; (conv => whnf))
    | (refine want_st C hG (by first | decide | exact cl_ne) (by omega) (by intro e he; first | exact hE e he | exact ⟨True.intro, hE e he⟩) ?_; intro hl hG; (conv => whnf))
    | (refine is_st C hG (by first | decide | exact cl_ne) (by omega) (fun hb hl hG => ?_) (fun hb hG => ?_) <;> (conv => whnf))
    | (refine wantK_st C hG (by decide) (by omega) (by intro e he; first | exact hE e he | exact ⟨True.intro, hE e he⟩) ?_; intro hl hG; (conv => whnf))
    | (refine begins_st C hG (by omega) (fun hG => ?_) (fun hG => ?_) <;> (conv => whnf))
    | (refine kind_st C hG (by decide) (by omega) (fun hl hG => ?_) (fun hG => ?_) <;> (conv => whnf))
    | (refine rul_st ihf.factor hG (by trivial) rfl (by intro e he; first | exact hE e he | exact ⟨True.intro, hE e he⟩) (by omega) ?_; intro n1 l1 x1 o1 ks1 j1 hp1 hj1 hG; simp only [NT.min] at hp1; (conv => whnf))
    | (refine tal_st ihf.factor hG (by trivial) rfl (by intro e he; first | exact hE e he | exact ⟨True.intro, hE e he⟩) (by omega) ?_; intro n1 l1 x1 o1 ks1 j1 hp1 hj1 hG; simp only [NT.min] at hp1; (conv => whnf))
    | (refine rul_st ihf.primary hG (by trivial) rfl (by intro e he; first | exact hE e he | exact ⟨True.intro, hE e he⟩) (by omega) ?_; intro n1 l1 x1 o1 ks1 j1 hp1 hj1 hG; simp only [NT.min] at hp1; (conv => whnf))
    | (refine tal_st ihf.primary hG (by trivial) rfl (by intro e he; first | exact hE e he | exact ⟨True.intro, hE e he⟩) (by omega) ?_; intro n1 l1 x1 o1 ks1 j1 hp1 hj1 hG; simp only [NT.min] at hp1; (conv => whnf))
    | (refine single_st hG (fun hG => ?_) (fun hG => ?_) <;> (conv => whnf))
    | (refine place_st hG (fun hG => ?_) (fun hG => ?_) <;> (conv => whnf))
    | (refine operator_st C hG (by omega) (by intro e he; first | exact hE e he | exact ⟨True.intro, hE e he⟩) (fun hG => ?_) (fun op1 j1 hj0 hj1 hG => ?_) <;> (conv => whnf))
    | (refine augment_st C hG (by omega) (fun ha hl hG => ?_) (fun hG => ?_) <;> (conv => whnf))
    | (intro (hmx : _ ≤ maxLen); (conv => whnf))
    | (refine is_stf C hG (by first | decide | exact cl_ne) (by omega) (fun hG => ?_) (fun hG => ?_) <;> (conv => whnf))
    | (refine want_kn C (by decide) (by omega) hb ?_; intro hl; (conv => whnf))
    | (refine ⟨rfl, ?_⟩; (conv => whnf))
    | (refine ⟨bdA (by simp only [List.length_append, List.length_cons, List.length_nil, ndsS_len]; omega), ?_⟩; (conv => whnf))
    | exact hQ _ _ hG (by omega)
    | (refine fail_st C (by omega) hG (by intro e he; first | exact hE e he | exact ⟨True.intro, hE e he⟩))
    | (refine tc_self (rd_wr C hl) ?_)
    | (refine ifT_c (fun h => by exfalso; simp at h; omega) (fun h => ?_); (conv => whnf))
    | (refine ifT_c (fun h => ?_) (fun h => by exfalso; simp at h; omega); (conv => whnf))
    | (refine q_eq ?_ ?_ (hQ _ _ hG (by omega)) <;> first | rfl | exact sn_agg rfl | exact sn_row rfl | exact rd_wr C hl)
set_option maxHeartbeats 4000000 in
theorem pw_value (C : PCtx Z X W ts sl) (ih : ∀ g, g ≤ f → PAll Z X W ts sl g) : PC Z X W ts sl (f + 1) .value 54 [.ptr 0 0] ans1 := by
  intro   i Q R E P hi hG hE hQ
  have ihf := ih f (Nat.le_refl f)
  have hln := C.len
  have hG0 := hG
  simp only [gr] at hG
  refine tc_rG dt_ok (by rfl) (by kernel_rfl) ?_
  conv in (rF _ _).body => reduce
  conv in (rF _ _).res => reduce
  conv => whnf
  repeat' first
    | (refine has_st C hG (by first | decide | exact cl_ne) (by omega) (fun hl hG => ?_) (fun hG => ?_) <;> (conv => whnf))
    | (refine now_tc C (by omega) ?_; (conv => whnf))
    | (refine want_st C hG (by first | decide | exact cl_ne) (by omega) (by intro e he; first | exact hE e he | exact ⟨True.intro, hE e he⟩) ?_; intro hl hG; (conv => whnf))
    | (refine is_st C hG (by first | decide | exact cl_ne) (by omega) (fun hb hl hG => ?_) (fun hb hG => ?_) <;> (conv => whnf))
    | (refine wantK_st C hG (by decide) (by omega) (by intro e he; first | exact hE e he | exact ⟨True.intro, hE e he⟩) ?_; intro hl hG; (conv => whnf))
    | (refine begins_st C hG (by omega) (fun hG => ?_) (fun hG => ?_) <;> (conv => whnf))
    | (refine kind_st C hG (by decide) (by omega) (fun hl hG => ?_) (fun hG => ?_) <;> (conv => whnf))
    | (refine rul_st (ihf.maybe _ _ _) hG (by trivial) rfl (by intro e he; first | exact hE e he | exact ⟨True.intro, hE e he⟩) (by omega) ?_; intro n1 l1 x1 o1 ks1 j1 hp1 hj1 hG; simp only [NT.min] at hp1; (conv => whnf))
    | (refine tal_st (ihf.maybe _ _ _) hG (by trivial) rfl (by intro e he; first | exact hE e he | exact ⟨True.intro, hE e he⟩) (by omega) ?_; intro n1 l1 x1 o1 ks1 j1 hp1 hj1 hG; simp only [NT.min] at hp1; (conv => whnf))
    | (refine rul_st ihf.exprs hG (by trivial) rfl (by intro e he; first | exact hE e he | exact ⟨True.intro, hE e he⟩) (by omega) ?_; intro n1 l1 x1 o1 ks1 j1 hp1 hj1 hG; simp only [NT.min] at hp1; (conv => whnf))
    | (refine tal_st ihf.exprs hG (by trivial) rfl (by intro e he; first | exact hE e he | exact ⟨True.intro, hE e he⟩) (by omega) ?_; intro n1 l1 x1 o1 ks1 j1 hp1 hj1 hG; simp only [NT.min] at hp1; (conv => whnf))
    | (refine single_st hG (fun hG => ?_) (fun hG => ?_) <;> (conv => whnf))
    | (refine place_st hG (fun hG => ?_) (fun hG => ?_) <;> (conv => whnf))
    | (refine operator_st C hG (by omega) (by intro e he; first | exact hE e he | exact ⟨True.intro, hE e he⟩) (fun hG => ?_) (fun op1 j1 hj0 hj1 hG => ?_) <;> (conv => whnf))
    | (refine augment_st C hG (by omega) (fun ha hl hG => ?_) (fun hG => ?_) <;> (conv => whnf))
    | (intro (hmx : _ ≤ maxLen); (conv => whnf))
    | (refine is_stf C hG (by first | decide | exact cl_ne) (by omega) (fun hG => ?_) (fun hG => ?_) <;> (conv => whnf))
    | (refine want_kn C (by decide) (by omega) hb ?_; intro hl; (conv => whnf))
    | (refine ⟨rfl, ?_⟩; (conv => whnf))
    | (refine ⟨bdA (by simp only [List.length_append, List.length_cons, List.length_nil, ndsS_len]; omega), ?_⟩; (conv => whnf))
    | exact hQ _ _ hG (by omega)
    | (refine fail_st C (by omega) hG (by intro e he; first | exact hE e he | exact ⟨True.intro, hE e he⟩))
    | (refine tc_self (rd_wr C hl) ?_)
    | (refine ifT_c (fun h => by exfalso; simp at h; omega) (fun h => ?_); (conv => whnf))
    | (refine ifT_c (fun h => ?_) (fun h => by exfalso; simp at h; omega); (conv => whnf))
    | (refine q_eq ?_ ?_ (hQ _ _ hG (by omega)) <;> first | rfl | exact sn_agg rfl | exact sn_row rfl | exact rd_wr C hl)
set_option maxHeartbeats 4000000 in
theorem pw_one (C : PCtx Z X W ts sl) (ih : ∀ g, g ≤ f → PAll Z X W ts sl g) : PC Z X W ts sl (f + 1) .one 39 [.ptr 0 0] ans1 := by
  intro   i Q R E P hi hG hE hQ
  have ihf := ih f (Nat.le_refl f)
  have hln := C.len
  have hG0 := hG
  simp only [gr] at hG
  refine tc_rG dt_ok (by rfl) (by kernel_rfl) ?_
  conv in (rF _ _).body => reduce
  conv in (rF _ _).res => reduce
  conv => whnf
  repeat' first
    | (refine has_st C hG (by first | decide | exact cl_ne) (by omega) (fun hl hG => ?_) (fun hG => ?_) <;> (conv => whnf))
    | (refine now_tc C (by omega) ?_; (conv => whnf))
    | (refine want_st C hG (by first | decide | exact cl_ne) (by omega) (by intro e he; first | exact hE e he | exact ⟨True.intro, hE e he⟩) ?_; intro hl hG; (conv => whnf))
    | (refine is_st C hG (by first | decide | exact cl_ne) (by omega) (fun hb hl hG => ?_) (fun hb hG => ?_) <;> (conv => whnf))
    | (refine wantK_st C hG (by decide) (by omega) (by intro e he; first | exact hE e he | exact ⟨True.intro, hE e he⟩) ?_; intro hl hG; (conv => whnf))
    | (refine begins_st C hG (by omega) (fun hG => ?_) (fun hG => ?_) <;> (conv => whnf))
    | (refine kind_st C hG (by decide) (by omega) (fun hl hG => ?_) (fun hG => ?_) <;> (conv => whnf))
    | (refine rul_st ihf.primary hG (by trivial) rfl (by intro e he; first | exact hE e he | exact ⟨True.intro, hE e he⟩) (by omega) ?_; intro n1 l1 x1 o1 ks1 j1 hp1 hj1 hG; simp only [NT.min] at hp1; (conv => whnf))
    | (refine tal_st ihf.primary hG (by trivial) rfl (by intro e he; first | exact hE e he | exact ⟨True.intro, hE e he⟩) (by omega) ?_; intro n1 l1 x1 o1 ks1 j1 hp1 hj1 hG; simp only [NT.min] at hp1; (conv => whnf))
    | (refine single_st hG (fun hG => ?_) (fun hG => ?_) <;> (conv => whnf))
    | (refine place_st hG (fun hG => ?_) (fun hG => ?_) <;> (conv => whnf))
    | (refine operator_st C hG (by omega) (by intro e he; first | exact hE e he | exact ⟨True.intro, hE e he⟩) (fun hG => ?_) (fun op1 j1 hj0 hj1 hG => ?_) <;> (conv => whnf))
    | (refine augment_st C hG (by omega) (fun ha hl hG => ?_) (fun hG => ?_) <;> (conv => whnf))
    | (intro (hmx : _ ≤ maxLen); (conv => whnf))
    | (refine is_stf C hG (by first | decide | exact cl_ne) (by omega) (fun hG => ?_) (fun hG => ?_) <;> (conv => whnf))
    | (refine want_kn C (by decide) (by omega) hb ?_; intro hl; (conv => whnf))
    | (refine ⟨rfl, ?_⟩; (conv => whnf))
    | (refine ⟨bdA (by simp only [List.length_append, List.length_cons, List.length_nil, ndsS_len]; omega), ?_⟩; (conv => whnf))
    | exact hQ _ _ hG (by omega)
    | (refine fail_st C (by omega) hG (by intro e he; first | exact hE e he | exact ⟨True.intro, hE e he⟩))
    | (refine tc_self (rd_wr C hl) ?_)
    | (refine ifT_c (fun h => by exfalso; simp at h; omega) (fun h => ?_); (conv => whnf))
    | (refine ifT_c (fun h => ?_) (fun h => by exfalso; simp at h; omega); (conv => whnf))
    | (refine q_eq ?_ ?_ (hQ _ _ hG (by omega)) <;> first | rfl | exact sn_agg rfl | exact sn_row rfl | exact rd_wr C hl)
set_option maxHeartbeats 4000000 in
theorem pw_list (C : PCtx Z X W ts sl) (ih : ∀ g, g ≤ f → PAll Z X W ts sl g) : ∀ (ln : Int), PC Z X W ts sl (f + 1) (.list ln) 66 [.ptr 0 0, rS (.int .i64 ln)] ans1 := by
  intro ln  i Q R E P hi hG hE hQ
  have ihf := ih f (Nat.le_refl f)
  have hln := C.len
  have hG0 := hG
  simp only [gr] at hG
  refine tc_rG dt_ok (by rfl) (by kernel_rfl) ?_
  conv in (rF _ _).body => reduce
  conv in (rF _ _).res => reduce
  conv => whnf
  repeat' first
    | (refine has_st C hG (by first | decide | exact cl_ne) (by omega) (fun hl hG => ?_) (fun hG => ?_) <;> (conv => whnf))
    | (refine now_tc C (by omega) ?_; (conv => whnf))
    | (refine want_st C hG (by first | decide | exact cl_ne) (by omega) (by intro e he; first | exact hE e he | exact ⟨True.intro, hE e he⟩) ?_; intro hl hG; (conv => whnf))
    | (refine is_st C hG (by first | decide | exact cl_ne) (by omega) (fun hb hl hG => ?_) (fun hb hG => ?_) <;> (conv => whnf))
    | (refine wantK_st C hG (by decide) (by omega) (by intro e he; first | exact hE e he | exact ⟨True.intro, hE e he⟩) ?_; intro hl hG; (conv => whnf))
    | (refine begins_st C hG (by omega) (fun hG => ?_) (fun hG => ?_) <;> (conv => whnf))
    | (refine kind_st C hG (by decide) (by omega) (fun hl hG => ?_) (fun hG => ?_) <;> (conv => whnf))
    | (refine rul_st ihf.expr hG (by trivial) rfl (by intro e he; first | exact hE e he | exact ⟨True.intro, hE e he⟩) (by omega) ?_; intro n1 l1 x1 o1 ks1 j1 hp1 hj1 hG; simp only [NT.min] at hp1; (conv => whnf))
    | (refine tal_st ihf.expr hG (by trivial) rfl (by intro e he; first | exact hE e he | exact ⟨True.intro, hE e he⟩) (by omega) ?_; intro n1 l1 x1 o1 ks1 j1 hp1 hj1 hG; simp only [NT.min] at hp1; (conv => whnf))
    | (refine lst_st ihf.clauses hG (by trivial) rfl (by intro e he; first | exact hE e he | exact ⟨True.intro, hE e he⟩) (by omega) ?_; intro l1 j1 hp1 hj1 hb1 hG; simp only [NT.acc, Option.getD_some, List.length_nil] at hb1; (conv => whnf))
    | (refine lst_st (ihf.row _ (by decide)) hG (by trivial) rfl (by intro e he; first | exact hE e he | exact ⟨True.intro, hE e he⟩) (by omega) ?_; intro l1 j1 hp1 hj1 hb1 hG; simp only [NT.acc, Option.getD_some, List.length_nil] at hb1; (conv => whnf))
    | (refine single_st hG (fun hG => ?_) (fun hG => ?_) <;> (conv => whnf))
    | (refine place_st hG (fun hG => ?_) (fun hG => ?_) <;> (conv => whnf))
    | (refine operator_st C hG (by omega) (by intro e he; first | exact hE e he | exact ⟨True.intro, hE e he⟩) (fun hG => ?_) (fun op1 j1 hj0 hj1 hG => ?_) <;> (conv => whnf))
    | (refine augment_st C hG (by omega) (fun ha hl hG => ?_) (fun hG => ?_) <;> (conv => whnf))
    | (intro (hmx : _ ≤ maxLen); (conv => whnf))
    | (refine is_stf C hG (by first | decide | exact cl_ne) (by omega) (fun hG => ?_) (fun hG => ?_) <;> (conv => whnf))
    | (refine want_kn C (by decide) (by omega) hb ?_; intro hl; (conv => whnf))
    | (refine ⟨rfl, ?_⟩; (conv => whnf))
    | (refine ⟨bdA (by simp only [List.length_append, List.length_cons, List.length_nil, ndsS_len]; omega), ?_⟩; (conv => whnf))
    | exact hQ _ _ hG (by omega)
    | (refine fail_st C (by omega) hG (by intro e he; first | exact hE e he | exact ⟨True.intro, hE e he⟩))
    | (refine tc_self (rd_wr C hl) ?_)
    | (refine ifT_c (fun h => by exfalso; simp at h; omega) (fun h => ?_); (conv => whnf))
    | (refine ifT_c (fun h => ?_) (fun h => by exfalso; simp at h; omega); (conv => whnf))
    | (refine q_eq ?_ ?_ (hQ _ _ hG (by omega)) <;> first | rfl | exact sn_agg rfl | exact sn_row rfl | exact rd_wr C hl)
end
end Can
end Go.Proofs.Ytnkfdkfmdeibfaa
end
section
namespace Go.Proofs.Ytnkfdkfmdeibfaa
namespace Can
open Go Go.RowKit
set_option linter.unusedSimpArgs false
set_option linter.unusedVariables false
set_option maxRecDepth 4000
attribute [local irreducible] TC isT nowT begT placeN
section
variable {Z : TP} {X : Pan} {W : Int → Value} {ts : List PT} {sl : Sl} {f : Nat}
set_option maxHeartbeats 4000000 in
theorem pw_simple (C : PCtx Z X W ts sl) (ih : ∀ g, g ≤ f → PAll Z X W ts sl g) : PC Z X W ts sl (f + 1) .simple 31 [.ptr 0 0] ans1 := by
  intro   i Q R E P hi hG hE hQ
  have ihf := ih f (Nat.le_refl f)
  have hln := C.len
  have hG0 := hG
  simp only [gr] at hG
  refine tc_rG dt_ok (by rfl) (by kernel_rfl) ?_
  conv in (rF _ _).body => reduce
  conv in (rF _ _).res => reduce
  conv => whnf
  repeat' first
    | (refine has_st C hG (by first | decide | exact cl_ne) (by omega) (fun hl hG => ?_) (fun hG => ?_) <;> (conv => whnf))
    | (refine now_tc C (by omega) ?_; (conv => whnf))
    | (refine want_st C hG (by first | decide | exact cl_ne) (by omega) (by intro e he; first | exact hE e he | exact ⟨True.intro, hE e he⟩) ?_; intro hl hG; (conv => whnf))
    | (refine is_st C hG (by first | decide | exact cl_ne) (by omega) (fun hb hl hG => ?_) (fun hb hG => ?_) <;> (conv => whnf))
    | (refine wantK_st C hG (by decide) (by omega) (by intro e he; first | exact hE e he | exact ⟨True.intro, hE e he⟩) ?_; intro hl hG; (conv => whnf))
    | (refine begins_st C hG (by omega) (fun hG => ?_) (fun hG => ?_) <;> (conv => whnf))
    | (refine kind_st C hG (by decide) (by omega) (fun hl hG => ?_) (fun hG => ?_) <;> (conv => whnf))
    | (refine rul_st (ihf.maybe _ _ _) hG (by trivial) rfl (by intro e he; first | exact hE e he | exact ⟨True.intro, hE e he⟩) (by omega) ?_; intro n1 l1 x1 o1 ks1 j1 hp1 hj1 hG; simp only [NT.min] at hp1; (conv => whnf))
    | (refine tal_st (ihf.maybe _ _ _) hG (by trivial) rfl (by intro e he; first | exact hE e he | exact ⟨True.intro, hE e he⟩) (by omega) ?_; intro n1 l1 x1 o1 ks1 j1 hp1 hj1 hG; simp only [NT.min] at hp1; (conv => whnf))
    | (refine rul_st (ihf.names _ _) hG (by trivial) rfl (by intro e he; first | exact hE e he | exact ⟨True.intro, hE e he⟩) (by omega) ?_; intro n1 l1 x1 o1 ks1 j1 hp1 hj1 hG; simp only [NT.min] at hp1; (conv => whnf))
    | (refine tal_st (ihf.names _ _) hG (by trivial) rfl (by intro e he; first | exact hE e he | exact ⟨True.intro, hE e he⟩) (by omega) ?_; intro n1 l1 x1 o1 ks1 j1 hp1 hj1 hG; simp only [NT.min] at hp1; (conv => whnf))
    | (refine rul_st ihf.expr hG (by trivial) rfl (by intro e he; first | exact hE e he | exact ⟨True.intro, hE e he⟩) (by omega) ?_; intro n1 l1 x1 o1 ks1 j1 hp1 hj1 hG; simp only [NT.min] at hp1; (conv => whnf))
    | (refine tal_st ihf.expr hG (by trivial) rfl (by intro e he; first | exact hE e he | exact ⟨True.intro, hE e he⟩) (by omega) ?_; intro n1 l1 x1 o1 ks1 j1 hp1 hj1 hG; simp only [NT.min] at hp1; (conv => whnf))
    | (refine rul_st ihf.primary hG (by trivial) rfl (by intro e he; first | exact hE e he | exact ⟨True.intro, hE e he⟩) (by omega) ?_; intro n1 l1 x1 o1 ks1 j1 hp1 hj1 hG; simp only [NT.min] at hp1; (conv => whnf))
    | (refine tal_st ihf.primary hG (by trivial) rfl (by intro e he; first | exact hE e he | exact ⟨True.intro, hE e he⟩) (by omega) ?_; intro n1 l1 x1 o1 ks1 j1 hp1 hj1 hG; simp only [NT.min] at hp1; (conv => whnf))
    | (refine rul_st ihf.plain hG (by trivial) rfl (by intro e he; first | exact hE e he | exact ⟨True.intro, hE e he⟩) (by omega) ?_; intro n1 l1 x1 o1 ks1 j1 hp1 hj1 hG; simp only [NT.min] at hp1; (conv => whnf))
    | (refine tal_st ihf.plain hG (by trivial) rfl (by intro e he; first | exact hE e he | exact ⟨True.intro, hE e he⟩) (by omega) ?_; intro n1 l1 x1 o1 ks1 j1 hp1 hj1 hG; simp only [NT.min] at hp1; (conv => whnf))
    | (refine single_st hG (fun hG => ?_) (fun hG => ?_) <;> (conv => whnf))
    | (refine place_st hG (fun hG => ?_) (fun hG => ?_) <;> (conv => whnf))
    | (refine operator_st C hG (by omega) (by intro e he; first | exact hE e he | exact ⟨True.intro, hE e he⟩) (fun hG => ?_) (fun op1 j1 hj0 hj1 hG => ?_) <;> (conv => whnf))
    | (refine augment_st C hG (by omega) (fun ha hl hG => ?_) (fun hG => ?_) <;> (conv => whnf))
    | (intro (hmx : _ ≤ maxLen); (conv => whnf))
    | (refine is_stf C hG (by first | decide | exact cl_ne) (by omega) (fun hG => ?_) (fun hG => ?_) <;> (conv => whnf))
    | (refine want_kn C (by decide) (by omega) hb ?_; intro hl; (conv => whnf))
    | (refine ⟨rfl, ?_⟩; (conv => whnf))
    | (refine ⟨bdA (by simp only [List.length_append, List.length_cons, List.length_nil, ndsS_len]; omega), ?_⟩; (conv => whnf))
    | exact hQ _ _ hG (by omega)
    | (refine fail_st C (by omega) hG (by intro e he; first | exact hE e he | exact ⟨True.intro, hE e he⟩))
    | (refine tc_self (rd_wr C hl) ?_)
    | (refine ifT_c (fun h => by exfalso; simp at h; omega) (fun h => ?_); (conv => whnf))
    | (refine ifT_c (fun h => ?_) (fun h => by exfalso; simp at h; omega); (conv => whnf))
    | (refine q_eq ?_ ?_ (hQ _ _ hG (by omega)) <;> first | rfl | exact sn_agg rfl | exact sn_row rfl | exact rd_wr C hl)
set_option maxHeartbeats 4000000 in
theorem pw_ifs (C : PCtx Z X W ts sl) (ih : ∀ g, g ≤ f → PAll Z X W ts sl g) : ∀ (ln : Int), PC Z X W ts sl (f + 1) (.ifs ln) 21 [.ptr 0 0, rS (.int .i64 ln)] ans1 := by
  intro ln  i Q R E P hi hG hE hQ
  have ihf := ih f (Nat.le_refl f)
  have hln := C.len
  have hG0 := hG
  simp only [gr] at hG
  refine tc_rG dt_ok (by rfl) (by kernel_rfl) ?_
  conv in (rF _ _).body => reduce
  conv in (rF _ _).res => reduce
  conv => whnf
  repeat' first
    | (refine has_st C hG (by first | decide | exact cl_ne) (by omega) (fun hl hG => ?_) (fun hG => ?_) <;> (conv => whnf))
    | (refine now_tc C (by omega) ?_; (conv => whnf))
    | (refine want_st C hG (by first | decide | exact cl_ne) (by omega) (by intro e he; first | exact hE e he | exact ⟨True.intro, hE e he⟩) ?_; intro hl hG; (conv => whnf))
    | (refine is_st C hG (by first | decide | exact cl_ne) (by omega) (fun hb hl hG => ?_) (fun hb hG => ?_) <;> (conv => whnf))
    | (refine wantK_st C hG (by decide) (by omega) (by intro e he; first | exact hE e he | exact ⟨True.intro, hE e he⟩) ?_; intro hl hG; (conv => whnf))
    | (refine begins_st C hG (by omega) (fun hG => ?_) (fun hG => ?_) <;> (conv => whnf))
    | (refine kind_st C hG (by decide) (by omega) (fun hl hG => ?_) (fun hG => ?_) <;> (conv => whnf))
    | (refine rul_st ihf.expr hG (by trivial) rfl (by intro e he; first | exact hE e he | exact ⟨True.intro, hE e he⟩) (by omega) ?_; intro n1 l1 x1 o1 ks1 j1 hp1 hj1 hG; simp only [NT.min] at hp1; (conv => whnf))
    | (refine tal_st ihf.expr hG (by trivial) rfl (by intro e he; first | exact hE e he | exact ⟨True.intro, hE e he⟩) (by omega) ?_; intro n1 l1 x1 o1 ks1 j1 hp1 hj1 hG; simp only [NT.min] at hp1; (conv => whnf))
    | (refine rul_st ihf.block hG (by trivial) rfl (by intro e he; first | exact hE e he | exact ⟨True.intro, hE e he⟩) (by omega) ?_; intro n1 l1 x1 o1 ks1 j1 hp1 hj1 hG; simp only [NT.min] at hp1; (conv => whnf))
    | (refine tal_st ihf.block hG (by trivial) rfl (by intro e he; first | exact hE e he | exact ⟨True.intro, hE e he⟩) (by omega) ?_; intro n1 l1 x1 o1 ks1 j1 hp1 hj1 hG; simp only [NT.min] at hp1; (conv => whnf))
    | (refine rul_st (ihf.ifs _) hG (by trivial) rfl (by intro e he; first | exact hE e he | exact ⟨True.intro, hE e he⟩) (by omega) ?_; intro n1 l1 x1 o1 ks1 j1 hp1 hj1 hG; simp only [NT.min] at hp1; (conv => whnf))
    | (refine tal_st (ihf.ifs _) hG (by trivial) rfl (by intro e he; first | exact hE e he | exact ⟨True.intro, hE e he⟩) (by omega) ?_; intro n1 l1 x1 o1 ks1 j1 hp1 hj1 hG; simp only [NT.min] at hp1; (conv => whnf))
    | (refine single_st hG (fun hG => ?_) (fun hG => ?_) <;> (conv => whnf))
    | (refine place_st hG (fun hG => ?_) (fun hG => ?_) <;> (conv => whnf))
    | (refine operator_st C hG (by omega) (by intro e he; first | exact hE e he | exact ⟨True.intro, hE e he⟩) (fun hG => ?_) (fun op1 j1 hj0 hj1 hG => ?_) <;> (conv => whnf))
    | (refine augment_st C hG (by omega) (fun ha hl hG => ?_) (fun hG => ?_) <;> (conv => whnf))
    | (intro (hmx : _ ≤ maxLen); (conv => whnf))
    | (refine is_stf C hG (by first | decide | exact cl_ne) (by omega) (fun hG => ?_) (fun hG => ?_) <;> (conv => whnf))
    | (refine want_kn C (by decide) (by omega) hb ?_; intro hl; (conv => whnf))
    | (refine ⟨rfl, ?_⟩; (conv => whnf))
    | (refine ⟨bdA (by simp only [List.length_append, List.length_cons, List.length_nil, ndsS_len]; omega), ?_⟩; (conv => whnf))
    | exact hQ _ _ hG (by omega)
    | (refine fail_st C (by omega) hG (by intro e he; first | exact hE e he | exact ⟨True.intro, hE e he⟩))
    | (refine tc_self (rd_wr C hl) ?_)
    | (refine ifT_c (fun h => by exfalso; simp at h; omega) (fun h => ?_); (conv => whnf))
    | (refine ifT_c (fun h => ?_) (fun h => by exfalso; simp at h; omega); (conv => whnf))
    | (refine q_eq ?_ ?_ (hQ _ _ hG (by omega)) <;> first | rfl | exact sn_agg rfl | exact sn_row rfl | exact rd_wr C hl)
set_option maxHeartbeats 4000000 in
theorem pw_stmt (C : PCtx Z X W ts sl) (ih : ∀ g, g ≤ f → PAll Z X W ts sl g) : PC Z X W ts sl (f + 1) .stmt 17 [.ptr 0 0] ans1 := by
  intro   i Q R E P hi hG hE hQ
  have ihf := ih f (Nat.le_refl f)
  have hln := C.len
  have hG0 := hG
  simp only [gr] at hG
  refine tc_rG dt_ok (by rfl) (by kernel_rfl) ?_
  conv in (rF _ _).body => reduce
  conv in (rF _ _).res => reduce
  conv => whnf
  repeat' first
    | (refine has_st C hG (by first | decide | exact cl_ne) (by omega) (fun hl hG => ?_) (fun hG => ?_) <;> (conv => whnf))
    | (refine now_tc C (by omega) ?_; (conv => whnf))
    | (refine want_st C hG (by first | decide | exact cl_ne) (by omega) (by intro e he; first | exact hE e he | exact ⟨True.intro, hE e he⟩) ?_; intro hl hG; (conv => whnf))
    | (refine is_st C hG (by first | decide | exact cl_ne) (by omega) (fun hb hl hG => ?_) (fun hb hG => ?_) <;> (conv => whnf))
    | (refine wantK_st C hG (by decide) (by omega) (by intro e he; first | exact hE e he | exact ⟨True.intro, hE e he⟩) ?_; intro hl hG; (conv => whnf))
    | (refine begins_st C hG (by omega) (fun hG => ?_) (fun hG => ?_) <;> (conv => whnf))
    | (refine kind_st C hG (by decide) (by omega) (fun hl hG => ?_) (fun hG => ?_) <;> (conv => whnf))
    | (refine rul_st (ihf.ifs _) hG (by trivial) rfl (by intro e he; first | exact hE e he | exact ⟨True.intro, hE e he⟩) (by omega) ?_; intro n1 l1 x1 o1 ks1 j1 hp1 hj1 hG; simp only [NT.min] at hp1; (conv => whnf))
    | (refine tal_st (ihf.ifs _) hG (by trivial) rfl (by intro e he; first | exact hE e he | exact ⟨True.intro, hE e he⟩) (by omega) ?_; intro n1 l1 x1 o1 ks1 j1 hp1 hj1 hG; simp only [NT.min] at hp1; (conv => whnf))
    | (refine rul_st ihf.expr hG (by trivial) rfl (by intro e he; first | exact hE e he | exact ⟨True.intro, hE e he⟩) (by omega) ?_; intro n1 l1 x1 o1 ks1 j1 hp1 hj1 hG; simp only [NT.min] at hp1; (conv => whnf))
    | (refine tal_st ihf.expr hG (by trivial) rfl (by intro e he; first | exact hE e he | exact ⟨True.intro, hE e he⟩) (by omega) ?_; intro n1 l1 x1 o1 ks1 j1 hp1 hj1 hG; simp only [NT.min] at hp1; (conv => whnf))
    | (refine rul_st ihf.block hG (by trivial) rfl (by intro e he; first | exact hE e he | exact ⟨True.intro, hE e he⟩) (by omega) ?_; intro n1 l1 x1 o1 ks1 j1 hp1 hj1 hG; simp only [NT.min] at hp1; (conv => whnf))
    | (refine tal_st ihf.block hG (by trivial) rfl (by intro e he; first | exact hE e he | exact ⟨True.intro, hE e he⟩) (by omega) ?_; intro n1 l1 x1 o1 ks1 j1 hp1 hj1 hG; simp only [NT.min] at hp1; (conv => whnf))
    | (refine rul_st ihf.places hG (by trivial) rfl (by intro e he; first | exact hE e he | exact ⟨True.intro, hE e he⟩) (by omega) ?_; intro n1 l1 x1 o1 ks1 j1 hp1 hj1 hG; simp only [NT.min] at hp1; (conv => whnf))
    | (refine tal_st ihf.places hG (by trivial) rfl (by intro e he; first | exact hE e he | exact ⟨True.intro, hE e he⟩) (by omega) ?_; intro n1 l1 x1 o1 ks1 j1 hp1 hj1 hG; simp only [NT.min] at hp1; (conv => whnf))
    | (refine rul_st ihf.exprs hG (by trivial) rfl (by intro e he; first | exact hE e he | exact ⟨True.intro, hE e he⟩) (by omega) ?_; intro n1 l1 x1 o1 ks1 j1 hp1 hj1 hG; simp only [NT.min] at hp1; (conv => whnf))
    | (refine tal_st ihf.exprs hG (by trivial) rfl (by intro e he; first | exact hE e he | exact ⟨True.intro, hE e he⟩) (by omega) ?_; intro n1 l1 x1 o1 ks1 j1 hp1 hj1 hG; simp only [NT.min] at hp1; (conv => whnf))
    | (refine rul_st (ihf.params _ _ (by decide)) hG (by trivial) rfl (by intro e he; first | exact hE e he | exact ⟨True.intro, hE e he⟩) (by omega) ?_; intro n1 l1 x1 o1 ks1 j1 hp1 hj1 hG; simp only [NT.min] at hp1; (conv => whnf))
    | (refine tal_st (ihf.params _ _ (by decide)) hG (by trivial) rfl (by intro e he; first | exact hE e he | exact ⟨True.intro, hE e he⟩) (by omega) ?_; intro n1 l1 x1 o1 ks1 j1 hp1 hj1 hG; simp only [NT.min] at hp1; (conv => whnf))
    | (refine lst_st (ihf.row _ (by decide)) hG (by trivial) rfl (by intro e he; first | exact hE e he | exact ⟨True.intro, hE e he⟩) (by omega) ?_; intro l1 j1 hp1 hj1 hb1 hG; simp only [NT.acc, Option.getD_some, List.length_nil] at hb1; (conv => whnf))
    | (refine rul_st (ihf.tries _) hG (by trivial) rfl (by intro e he; first | exact hE e he | exact ⟨True.intro, hE e he⟩) (by omega) ?_; intro n1 l1 x1 o1 ks1 j1 hp1 hj1 hG; simp only [NT.min] at hp1; (conv => whnf))
    | (refine tal_st (ihf.tries _) hG (by trivial) rfl (by intro e he; first | exact hE e he | exact ⟨True.intro, hE e he⟩) (by omega) ?_; intro n1 l1 x1 o1 ks1 j1 hp1 hj1 hG; simp only [NT.min] at hp1; (conv => whnf))
    | (refine rul_st ihf.simple hG (by trivial) rfl (by intro e he; first | exact hE e he | exact ⟨True.intro, hE e he⟩) (by omega) ?_; intro n1 l1 x1 o1 ks1 j1 hp1 hj1 hG; simp only [NT.min] at hp1; (conv => whnf))
    | (refine tal_st ihf.simple hG (by trivial) rfl (by intro e he; first | exact hE e he | exact ⟨True.intro, hE e he⟩) (by omega) ?_; intro n1 l1 x1 o1 ks1 j1 hp1 hj1 hG; simp only [NT.min] at hp1; (conv => whnf))
    | (refine single_st hG (fun hG => ?_) (fun hG => ?_) <;> (conv => whnf))
    | (refine place_st hG (fun hG => ?_) (fun hG => ?_) <;> (conv => whnf))
    | (refine operator_st C hG (by omega) (by intro e he; first | exact hE e he | exact ⟨True.intro, hE e he⟩) (fun hG => ?_) (fun op1 j1 hj0 hj1 hG => ?_) <;> (conv => whnf))
    | (refine augment_st C hG (by omega) (fun ha hl hG => ?_) (fun hG => ?_) <;> (conv => whnf))
    | (intro (hmx : _ ≤ maxLen); (conv => whnf))
    | (refine is_stf C hG (by first | decide | exact cl_ne) (by omega) (fun hG => ?_) (fun hG => ?_) <;> (conv => whnf))
    | (refine want_kn C (by decide) (by omega) hb ?_; intro hl; (conv => whnf))
    | (refine ⟨rfl, ?_⟩; (conv => whnf))
    | (refine ⟨bdA (by simp only [List.length_append, List.length_cons, List.length_nil, ndsS_len]; omega), ?_⟩; (conv => whnf))
    | exact hQ _ _ hG (by omega)
    | (refine fail_st C (by omega) hG (by intro e he; first | exact hE e he | exact ⟨True.intro, hE e he⟩))
    | (refine tc_self (rd_wr C hl) ?_)
    | (refine ifT_c (fun h => by exfalso; simp at h; omega) (fun h => ?_); (conv => whnf))
    | (refine ifT_c (fun h => ?_) (fun h => by exfalso; simp at h; omega); (conv => whnf))
    | (refine q_eq ?_ ?_ (hQ _ _ hG (by omega)) <;> first | rfl | exact sn_agg rfl | exact sn_row rfl | exact rd_wr C hl)
end
end Can
end Go.Proofs.Ytnkfdkfmdeibfaa
end
section
namespace Go.Proofs.Ytnkfdkfmdeibfaa
namespace Can
open Go Go.RowKit
set_option linter.unusedSimpArgs false
set_option linter.unusedVariables false
set_option maxRecDepth 4000
attribute [local irreducible] TC isT nowT begT placeN
section
variable {Z : TP} {X : Pan} {W : Int → Value} {ts : List PT} {sl : Sl} {f : Nat}
set_option maxHeartbeats 4000000 in
theorem pw_or (C : PCtx Z X W ts sl) (ih : ∀ g, g ≤ f → PAll Z X W ts sl g) : PC Z X W ts sl (f + 1) .or 36 [.ptr 0 0] ans1 := by
  intro   i Q R E P hi hG hE hQ
  have ihf := ih f (Nat.le_refl f)
  have hln := C.len
  have hG0 := hG
  simp only [gr] at hG
  refine tc_rG dt_ok (by rfl) (by kernel_rfl) ?_
  conv in (rF _ _).body => reduce
  conv in (rF _ _).res => reduce
  conv => whnf
  repeat' first
    | (refine has_st C hG (by first | decide | exact cl_ne) (by omega) (fun hl hG => ?_) (fun hG => ?_) <;> (conv => whnf))
    | (refine now_tc C (by omega) ?_; (conv => whnf))
    | (refine want_st C hG (by first | decide | exact cl_ne) (by omega) (by intro e he; first | exact hE e he | exact ⟨True.intro, hE e he⟩) ?_; intro hl hG; (conv => whnf))
    | (refine is_st C hG (by first | decide | exact cl_ne) (by omega) (fun hb hl hG => ?_) (fun hb hG => ?_) <;> (conv => whnf))
    | (refine wantK_st C hG (by decide) (by omega) (by intro e he; first | exact hE e he | exact ⟨True.intro, hE e he⟩) ?_; intro hl hG; (conv => whnf))
    | (refine begins_st C hG (by omega) (fun hG => ?_) (fun hG => ?_) <;> (conv => whnf))
    | (refine kind_st C hG (by decide) (by omega) (fun hl hG => ?_) (fun hG => ?_) <;> (conv => whnf))
    | (refine rul_st ihf.and_ hG (by trivial) rfl (by intro e he; first | exact hE e he | exact ⟨True.intro, hE e he⟩) (by omega) ?_; intro n1 l1 x1 o1 ks1 j1 hp1 hj1 hG; simp only [NT.min] at hp1; (conv => whnf))
    | (refine tal_st ihf.and_ hG (by trivial) rfl (by intro e he; first | exact hE e he | exact ⟨True.intro, hE e he⟩) (by omega) ?_; intro n1 l1 x1 o1 ks1 j1 hp1 hj1 hG; simp only [NT.min] at hp1; (conv => whnf))
    | (refine single_st hG (fun hG => ?_) (fun hG => ?_) <;> (conv => whnf))
    | (refine place_st hG (fun hG => ?_) (fun hG => ?_) <;> (conv => whnf))
    | (refine operator_st C hG (by omega) (by intro e he; first | exact hE e he | exact ⟨True.intro, hE e he⟩) (fun hG => ?_) (fun op1 j1 hj0 hj1 hG => ?_) <;> (conv => whnf))
    | (refine augment_st C hG (by omega) (fun ha hl hG => ?_) (fun hG => ?_) <;> (conv => whnf))
    | (intro (hmx : _ ≤ maxLen); (conv => whnf))
    | (refine is_stf C hG (by first | decide | exact cl_ne) (by omega) (fun hG => ?_) (fun hG => ?_) <;> (conv => whnf))
    | (refine want_kn C (by decide) (by omega) hb ?_; intro hl; (conv => whnf))
    | (refine ⟨rfl, ?_⟩; (conv => whnf))
    | (refine ⟨bdA (by simp only [List.length_append, List.length_cons, List.length_nil, ndsS_len]; omega), ?_⟩; (conv => whnf))
    | exact hQ _ _ hG (by omega)
    | (refine fail_st C (by omega) hG (by intro e he; first | exact hE e he | exact ⟨True.intro, hE e he⟩))
    | (refine tc_self (rd_wr C hl) ?_)
    | (refine ifT_c (fun h => by exfalso; simp at h; omega) (fun h => ?_); (conv => whnf))
    | (refine ifT_c (fun h => ?_) (fun h => by exfalso; simp at h; omega); (conv => whnf))
    | (refine q_eq ?_ ?_ (hQ _ _ hG (by omega)) <;> first | rfl | exact sn_agg rfl | exact sn_row rfl | exact rd_wr C hl)
  refine loop_0 (fun m s => ∃ k l x o ks j, s = ⟨0, [oR sl j, oN nzC, oN (nA k l x o ks)]⟩ ∧ j ≤ ts.length ∧ m ≤ f ∧ Gd E P (gr ts m (.orL (.mk k l x o ks)) j)) f [] rfl ⟨_, _, _, _, _, _, rfl, by omega, Nat.le_refl _, hG⟩ ?_
  rintro m f1 s ⟨k, l, x, o, ks, j, rfl, hj, hmf, hG⟩
  rcases m with _ | m
  · exact hG.elim
  have ihm := ih m (by omega)
  simp only [gr] at hG
  (conv => whnf)
  repeat' first
      | (refine has_st C hG (by first | decide | exact cl_ne) (by omega) (fun hl hG => ?_) (fun hG => ?_) <;> (conv => whnf))
      | (refine now_tc C (by omega) ?_; (conv => whnf))
      | (refine want_st C hG (by first | decide | exact cl_ne) (by omega) (by intro e he; first | exact hE e he | exact ⟨True.intro, hE e he⟩) ?_; intro hl hG; (conv => whnf))
      | (refine is_st C hG (by first | decide | exact cl_ne) (by omega) (fun hb hl hG => ?_) (fun hb hG => ?_) <;> (conv => whnf))
      | (refine wantK_st C hG (by decide) (by omega) (by intro e he; first | exact hE e he | exact ⟨True.intro, hE e he⟩) ?_; intro hl hG; (conv => whnf))
      | (refine begins_st C hG (by omega) (fun hG => ?_) (fun hG => ?_) <;> (conv => whnf))
      | (refine kind_st C hG (by decide) (by omega) (fun hl hG => ?_) (fun hG => ?_) <;> (conv => whnf))
      | (refine rul_st ihm.and_ hG (by trivial) rfl (by intro e he; first | exact hE e he | exact ⟨True.intro, hE e he⟩) (by omega) ?_; intro n1 l1 x1 o1 ks1 j1 hp1 hj1 hG; simp only [NT.min] at hp1; (conv => whnf))
      | (refine tal_st ihm.and_ hG (by trivial) rfl (by intro e he; first | exact hE e he | exact ⟨True.intro, hE e he⟩) (by omega) ?_; intro n1 l1 x1 o1 ks1 j1 hp1 hj1 hG; simp only [NT.min] at hp1; (conv => whnf))
      | (refine single_st hG (fun hG => ?_) (fun hG => ?_) <;> (conv => whnf))
      | (refine place_st hG (fun hG => ?_) (fun hG => ?_) <;> (conv => whnf))
      | (refine operator_st C hG (by omega) (by intro e he; first | exact hE e he | exact ⟨True.intro, hE e he⟩) (fun hG => ?_) (fun op1 j1 hj0 hj1 hG => ?_) <;> (conv => whnf))
      | (refine augment_st C hG (by omega) (fun ha hl hG => ?_) (fun hG => ?_) <;> (conv => whnf))
      | (intro (hmx : _ ≤ maxLen); (conv => whnf))
      | (refine is_stf C hG (by first | decide | exact cl_ne) (by omega) (fun hG => ?_) (fun hG => ?_) <;> (conv => whnf))
      | (refine want_kn C (by decide) (by omega) hb ?_; intro hl; (conv => whnf))
      | exact ⟨m, [], by omega, rfl, _, _, _, _, _, _, rfl, by omega, by omega, hG⟩
      | (refine ⟨rfl, ?_⟩; (conv => whnf))
      | (refine ⟨bdA (by simp only [List.length_append, List.length_cons, List.length_nil, ndsS_len]; omega), ?_⟩; (conv => whnf))
      | exact hQ _ _ hG (by omega)
      | (refine fail_st C (by omega) hG (by intro e he; first | exact hE e he | exact ⟨True.intro, hE e he⟩))
      | (refine tc_self (rd_wr C hl) ?_)
      | (refine ifT_c (fun h => by exfalso; simp at h; omega) (fun h => ?_); (conv => whnf))
      | (refine ifT_c (fun h => ?_) (fun h => by exfalso; simp at h; omega); (conv => whnf))
      | (refine q_eq ?_ ?_ (hQ _ _ hG (by omega)) <;> first | rfl | exact sn_agg rfl | exact sn_row rfl | exact rd_wr C hl)
set_option maxHeartbeats 4000000 in
theorem pw_and (C : PCtx Z X W ts sl) (ih : ∀ g, g ≤ f → PAll Z X W ts sl g) : PC Z X W ts sl (f + 1) .and 50 [.ptr 0 0] ans1 := by
  intro   i Q R E P hi hG hE hQ
  have ihf := ih f (Nat.le_refl f)
  have hln := C.len
  have hG0 := hG
  simp only [gr] at hG
  refine tc_rG dt_ok (by rfl) (by kernel_rfl) ?_
  conv in (rF _ _).body => reduce
  conv in (rF _ _).res => reduce
  conv => whnf
  repeat' first
    | (refine has_st C hG (by first | decide | exact cl_ne) (by omega) (fun hl hG => ?_) (fun hG => ?_) <;> (conv => whnf))
    | (refine now_tc C (by omega) ?_; (conv => whnf))
    | (refine want_st C hG (by first | decide | exact cl_ne) (by omega) (by intro e he; first | exact hE e he | exact ⟨True.intro, hE e he⟩) ?_; intro hl hG; (conv => whnf))
    | (refine is_st C hG (by first | decide | exact cl_ne) (by omega) (fun hb hl hG => ?_) (fun hb hG => ?_) <;> (conv => whnf))
    | (refine wantK_st C hG (by decide) (by omega) (by intro e he; first | exact hE e he | exact ⟨True.intro, hE e he⟩) ?_; intro hl hG; (conv => whnf))
    | (refine begins_st C hG (by omega) (fun hG => ?_) (fun hG => ?_) <;> (conv => whnf))
    | (refine kind_st C hG (by decide) (by omega) (fun hl hG => ?_) (fun hG => ?_) <;> (conv => whnf))
    | (refine rul_st ihf.not_ hG (by trivial) rfl (by intro e he; first | exact hE e he | exact ⟨True.intro, hE e he⟩) (by omega) ?_; intro n1 l1 x1 o1 ks1 j1 hp1 hj1 hG; simp only [NT.min] at hp1; (conv => whnf))
    | (refine tal_st ihf.not_ hG (by trivial) rfl (by intro e he; first | exact hE e he | exact ⟨True.intro, hE e he⟩) (by omega) ?_; intro n1 l1 x1 o1 ks1 j1 hp1 hj1 hG; simp only [NT.min] at hp1; (conv => whnf))
    | (refine single_st hG (fun hG => ?_) (fun hG => ?_) <;> (conv => whnf))
    | (refine place_st hG (fun hG => ?_) (fun hG => ?_) <;> (conv => whnf))
    | (refine operator_st C hG (by omega) (by intro e he; first | exact hE e he | exact ⟨True.intro, hE e he⟩) (fun hG => ?_) (fun op1 j1 hj0 hj1 hG => ?_) <;> (conv => whnf))
    | (refine augment_st C hG (by omega) (fun ha hl hG => ?_) (fun hG => ?_) <;> (conv => whnf))
    | (intro (hmx : _ ≤ maxLen); (conv => whnf))
    | (refine is_stf C hG (by first | decide | exact cl_ne) (by omega) (fun hG => ?_) (fun hG => ?_) <;> (conv => whnf))
    | (refine want_kn C (by decide) (by omega) hb ?_; intro hl; (conv => whnf))
    | (refine ⟨rfl, ?_⟩; (conv => whnf))
    | (refine ⟨bdA (by simp only [List.length_append, List.length_cons, List.length_nil, ndsS_len]; omega), ?_⟩; (conv => whnf))
    | exact hQ _ _ hG (by omega)
    | (refine fail_st C (by omega) hG (by intro e he; first | exact hE e he | exact ⟨True.intro, hE e he⟩))
    | (refine tc_self (rd_wr C hl) ?_)
    | (refine ifT_c (fun h => by exfalso; simp at h; omega) (fun h => ?_); (conv => whnf))
    | (refine ifT_c (fun h => ?_) (fun h => by exfalso; simp at h; omega); (conv => whnf))
    | (refine q_eq ?_ ?_ (hQ _ _ hG (by omega)) <;> first | rfl | exact sn_agg rfl | exact sn_row rfl | exact rd_wr C hl)
  refine loop_0 (fun m s => ∃ k l x o ks j, s = ⟨0, [oR sl j, oN nzC, oN (nA k l x o ks)]⟩ ∧ j ≤ ts.length ∧ m ≤ f ∧ Gd E P (gr ts m (.andL (.mk k l x o ks)) j)) f [] rfl ⟨_, _, _, _, _, _, rfl, by omega, Nat.le_refl _, hG⟩ ?_
  rintro m f1 s ⟨k, l, x, o, ks, j, rfl, hj, hmf, hG⟩
  rcases m with _ | m
  · exact hG.elim
  have ihm := ih m (by omega)
  simp only [gr] at hG
  (conv => whnf)
  repeat' first
      | (refine has_st C hG (by first | decide | exact cl_ne) (by omega) (fun hl hG => ?_) (fun hG => ?_) <;> (conv => whnf))
      | (refine now_tc C (by omega) ?_; (conv => whnf))
      | (refine want_st C hG (by first | decide | exact cl_ne) (by omega) (by intro e he; first | exact hE e he | exact ⟨True.intro, hE e he⟩) ?_; intro hl hG; (conv => whnf))
      | (refine is_st C hG (by first | decide | exact cl_ne) (by omega) (fun hb hl hG => ?_) (fun hb hG => ?_) <;> (conv => whnf))
      | (refine wantK_st C hG (by decide) (by omega) (by intro e he; first | exact hE e he | exact ⟨True.intro, hE e he⟩) ?_; intro hl hG; (conv => whnf))
      | (refine begins_st C hG (by omega) (fun hG => ?_) (fun hG => ?_) <;> (conv => whnf))
      | (refine kind_st C hG (by decide) (by omega) (fun hl hG => ?_) (fun hG => ?_) <;> (conv => whnf))
      | (refine rul_st ihm.not_ hG (by trivial) rfl (by intro e he; first | exact hE e he | exact ⟨True.intro, hE e he⟩) (by omega) ?_; intro n1 l1 x1 o1 ks1 j1 hp1 hj1 hG; simp only [NT.min] at hp1; (conv => whnf))
      | (refine tal_st ihm.not_ hG (by trivial) rfl (by intro e he; first | exact hE e he | exact ⟨True.intro, hE e he⟩) (by omega) ?_; intro n1 l1 x1 o1 ks1 j1 hp1 hj1 hG; simp only [NT.min] at hp1; (conv => whnf))
      | (refine single_st hG (fun hG => ?_) (fun hG => ?_) <;> (conv => whnf))
      | (refine place_st hG (fun hG => ?_) (fun hG => ?_) <;> (conv => whnf))
      | (refine operator_st C hG (by omega) (by intro e he; first | exact hE e he | exact ⟨True.intro, hE e he⟩) (fun hG => ?_) (fun op1 j1 hj0 hj1 hG => ?_) <;> (conv => whnf))
      | (refine augment_st C hG (by omega) (fun ha hl hG => ?_) (fun hG => ?_) <;> (conv => whnf))
      | (intro (hmx : _ ≤ maxLen); (conv => whnf))
      | (refine is_stf C hG (by first | decide | exact cl_ne) (by omega) (fun hG => ?_) (fun hG => ?_) <;> (conv => whnf))
      | (refine want_kn C (by decide) (by omega) hb ?_; intro hl; (conv => whnf))
      | exact ⟨m, [], by omega, rfl, _, _, _, _, _, _, rfl, by omega, by omega, hG⟩
      | (refine ⟨rfl, ?_⟩; (conv => whnf))
      | (refine ⟨bdA (by simp only [List.length_append, List.length_cons, List.length_nil, ndsS_len]; omega), ?_⟩; (conv => whnf))
      | exact hQ _ _ hG (by omega)
      | (refine fail_st C (by omega) hG (by intro e he; first | exact hE e he | exact ⟨True.intro, hE e he⟩))
      | (refine tc_self (rd_wr C hl) ?_)
      | (refine ifT_c (fun h => by exfalso; simp at h; omega) (fun h => ?_); (conv => whnf))
      | (refine ifT_c (fun h => ?_) (fun h => by exfalso; simp at h; omega); (conv => whnf))
      | (refine q_eq ?_ ?_ (hQ _ _ hG (by omega)) <;> first | rfl | exact sn_agg rfl | exact sn_row rfl | exact rd_wr C hl)
set_option maxHeartbeats 4000000 in
theorem pw_arith (C : PCtx Z X W ts sl) (ih : ∀ g, g ≤ f → PAll Z X W ts sl g) : PC Z X W ts sl (f + 1) .arith 79 [.ptr 0 0] ans1 := by
  intro   i Q R E P hi hG hE hQ
  have ihf := ih f (Nat.le_refl f)
  have hln := C.len
  have hG0 := hG
  simp only [gr] at hG
  refine tc_rG dt_ok (by rfl) (by kernel_rfl) ?_
  conv in (rF _ _).body => reduce
  conv in (rF _ _).res => reduce
  conv => whnf
  repeat' first
    | (refine has_st C hG (by first | decide | exact cl_ne) (by omega) (fun hl hG => ?_) (fun hG => ?_) <;> (conv => whnf))
    | (refine now_tc C (by omega) ?_; (conv => whnf))
    | (refine want_st C hG (by first | decide | exact cl_ne) (by omega) (by intro e he; first | exact hE e he | exact ⟨True.intro, hE e he⟩) ?_; intro hl hG; (conv => whnf))
    | (refine is_st C hG (by first | decide | exact cl_ne) (by omega) (fun hb hl hG => ?_) (fun hb hG => ?_) <;> (conv => whnf))
    | (refine wantK_st C hG (by decide) (by omega) (by intro e he; first | exact hE e he | exact ⟨True.intro, hE e he⟩) ?_; intro hl hG; (conv => whnf))
    | (refine begins_st C hG (by omega) (fun hG => ?_) (fun hG => ?_) <;> (conv => whnf))
    | (refine kind_st C hG (by decide) (by omega) (fun hl hG => ?_) (fun hG => ?_) <;> (conv => whnf))
    | (refine rul_st ihf.term hG (by trivial) rfl (by intro e he; first | exact hE e he | exact ⟨True.intro, hE e he⟩) (by omega) ?_; intro n1 l1 x1 o1 ks1 j1 hp1 hj1 hG; simp only [NT.min] at hp1; (conv => whnf))
    | (refine tal_st ihf.term hG (by trivial) rfl (by intro e he; first | exact hE e he | exact ⟨True.intro, hE e he⟩) (by omega) ?_; intro n1 l1 x1 o1 ks1 j1 hp1 hj1 hG; simp only [NT.min] at hp1; (conv => whnf))
    | (refine single_st hG (fun hG => ?_) (fun hG => ?_) <;> (conv => whnf))
    | (refine place_st hG (fun hG => ?_) (fun hG => ?_) <;> (conv => whnf))
    | (refine operator_st C hG (by omega) (by intro e he; first | exact hE e he | exact ⟨True.intro, hE e he⟩) (fun hG => ?_) (fun op1 j1 hj0 hj1 hG => ?_) <;> (conv => whnf))
    | (refine augment_st C hG (by omega) (fun ha hl hG => ?_) (fun hG => ?_) <;> (conv => whnf))
    | (intro (hmx : _ ≤ maxLen); (conv => whnf))
    | (refine is_stf C hG (by first | decide | exact cl_ne) (by omega) (fun hG => ?_) (fun hG => ?_) <;> (conv => whnf))
    | (refine want_kn C (by decide) (by omega) hb ?_; intro hl; (conv => whnf))
    | (refine ⟨rfl, ?_⟩; (conv => whnf))
    | (refine ⟨bdA (by simp only [List.length_append, List.length_cons, List.length_nil, ndsS_len]; omega), ?_⟩; (conv => whnf))
    | exact hQ _ _ hG (by omega)
    | (refine fail_st C (by omega) hG (by intro e he; first | exact hE e he | exact ⟨True.intro, hE e he⟩))
    | (refine tc_self (rd_wr C hl) ?_)
    | (refine ifT_c (fun h => by exfalso; simp at h; omega) (fun h => ?_); (conv => whnf))
    | (refine ifT_c (fun h => ?_) (fun h => by exfalso; simp at h; omega); (conv => whnf))
    | (refine q_eq ?_ ?_ (hQ _ _ hG (by omega)) <;> first | rfl | exact sn_agg rfl | exact sn_row rfl | exact rd_wr C hl)
  refine loop_0 (fun m s => ∃ k l x o ks j, s = ⟨0, [oR sl j, oN nzC, oN (nA k l x o ks)]⟩ ∧ j ≤ ts.length ∧ m ≤ f ∧ Gd E P (gr ts m (.arithL (.mk k l x o ks)) j)) f [] rfl ⟨_, _, _, _, _, _, rfl, by omega, Nat.le_refl _, hG⟩ ?_
  rintro m f1 s ⟨k, l, x, o, ks, j, rfl, hj, hmf, hG⟩
  rcases m with _ | m
  · exact hG.elim
  have ihm := ih m (by omega)
  simp only [gr] at hG
  (conv => whnf)
  repeat' first
      | (refine has_st C hG (by first | decide | exact cl_ne) (by omega) (fun hl hG => ?_) (fun hG => ?_) <;> (conv => whnf))
      | (refine now_tc C (by omega) ?_; (conv => whnf))
      | (refine want_st C hG (by first | decide | exact cl_ne) (by omega) (by intro e he; first | exact hE e he | exact ⟨True.intro, hE e he⟩) ?_; intro hl hG; (conv => whnf))
      | (refine is_st C hG (by first | decide | exact cl_ne) (by omega) (fun hb hl hG => ?_) (fun hb hG => ?_) <;> (conv => whnf))
      | (refine wantK_st C hG (by decide) (by omega) (by intro e he; first | exact hE e he | exact ⟨True.intro, hE e he⟩) ?_; intro hl hG; (conv => whnf))
      | (refine begins_st C hG (by omega) (fun hG => ?_) (fun hG => ?_) <;> (conv => whnf))
      | (refine kind_st C hG (by decide) (by omega) (fun hl hG => ?_) (fun hG => ?_) <;> (conv => whnf))
      | (refine rul_st ihm.term hG (by trivial) rfl (by intro e he; first | exact hE e he | exact ⟨True.intro, hE e he⟩) (by omega) ?_; intro n1 l1 x1 o1 ks1 j1 hp1 hj1 hG; simp only [NT.min] at hp1; (conv => whnf))
      | (refine tal_st ihm.term hG (by trivial) rfl (by intro e he; first | exact hE e he | exact ⟨True.intro, hE e he⟩) (by omega) ?_; intro n1 l1 x1 o1 ks1 j1 hp1 hj1 hG; simp only [NT.min] at hp1; (conv => whnf))
      | (refine single_st hG (fun hG => ?_) (fun hG => ?_) <;> (conv => whnf))
      | (refine place_st hG (fun hG => ?_) (fun hG => ?_) <;> (conv => whnf))
      | (refine operator_st C hG (by omega) (by intro e he; first | exact hE e he | exact ⟨True.intro, hE e he⟩) (fun hG => ?_) (fun op1 j1 hj0 hj1 hG => ?_) <;> (conv => whnf))
      | (refine augment_st C hG (by omega) (fun ha hl hG => ?_) (fun hG => ?_) <;> (conv => whnf))
      | (intro (hmx : _ ≤ maxLen); (conv => whnf))
      | (refine is_stf C hG (by first | decide | exact cl_ne) (by omega) (fun hG => ?_) (fun hG => ?_) <;> (conv => whnf))
      | (refine want_kn C (by decide) (by omega) hb ?_; intro hl; (conv => whnf))
      | exact ⟨m, [], by omega, rfl, _, _, _, _, _, _, rfl, by omega, by omega, hG⟩
      | (refine ⟨rfl, ?_⟩; (conv => whnf))
      | (refine ⟨bdA (by simp only [List.length_append, List.length_cons, List.length_nil, ndsS_len]; omega), ?_⟩; (conv => whnf))
      | exact hQ _ _ hG (by omega)
      | (refine fail_st C (by omega) hG (by intro e he; first | exact hE e he | exact ⟨True.intro, hE e he⟩))
      | (refine tc_self (rd_wr C hl) ?_)
      | (refine ifT_c (fun h => by exfalso; simp at h; omega) (fun h => ?_); (conv => whnf))
      | (refine ifT_c (fun h => ?_) (fun h => by exfalso; simp at h; omega); (conv => whnf))
      | (refine q_eq ?_ ?_ (hQ _ _ hG (by omega)) <;> first | rfl | exact sn_agg rfl | exact sn_row rfl | exact rd_wr C hl)
set_option maxHeartbeats 4000000 in
theorem pw_term (C : PCtx Z X W ts sl) (ih : ∀ g, g ≤ f → PAll Z X W ts sl g) : PC Z X W ts sl (f + 1) .term 83 [.ptr 0 0] ans1 := by
  intro   i Q R E P hi hG hE hQ
  have ihf := ih f (Nat.le_refl f)
  have hln := C.len
  have hG0 := hG
  simp only [gr] at hG
  refine tc_rG dt_ok (by rfl) (by kernel_rfl) ?_
  conv in (rF _ _).body => reduce
  conv in (rF _ _).res => reduce
  conv => whnf
  repeat' first
    | (refine has_st C hG (by first | decide | exact cl_ne) (by omega) (fun hl hG => ?_) (fun hG => ?_) <;> (conv => whnf))
    | (refine now_tc C (by omega) ?_; (conv => whnf))
    | (refine want_st C hG (by first | decide | exact cl_ne) (by omega) (by intro e he; first | exact hE e he | exact ⟨True.intro, hE e he⟩) ?_; intro hl hG; (conv => whnf))
    | (refine is_st C hG (by first | decide | exact cl_ne) (by omega) (fun hb hl hG => ?_) (fun hb hG => ?_) <;> (conv => whnf))
    | (refine wantK_st C hG (by decide) (by omega) (by intro e he; first | exact hE e he | exact ⟨True.intro, hE e he⟩) ?_; intro hl hG; (conv => whnf))
    | (refine begins_st C hG (by omega) (fun hG => ?_) (fun hG => ?_) <;> (conv => whnf))
    | (refine kind_st C hG (by decide) (by omega) (fun hl hG => ?_) (fun hG => ?_) <;> (conv => whnf))
    | (refine rul_st ihf.factor hG (by trivial) rfl (by intro e he; first | exact hE e he | exact ⟨True.intro, hE e he⟩) (by omega) ?_; intro n1 l1 x1 o1 ks1 j1 hp1 hj1 hG; simp only [NT.min] at hp1; (conv => whnf))
    | (refine tal_st ihf.factor hG (by trivial) rfl (by intro e he; first | exact hE e he | exact ⟨True.intro, hE e he⟩) (by omega) ?_; intro n1 l1 x1 o1 ks1 j1 hp1 hj1 hG; simp only [NT.min] at hp1; (conv => whnf))
    | (refine single_st hG (fun hG => ?_) (fun hG => ?_) <;> (conv => whnf))
    | (refine place_st hG (fun hG => ?_) (fun hG => ?_) <;> (conv => whnf))
    | (refine operator_st C hG (by omega) (by intro e he; first | exact hE e he | exact ⟨True.intro, hE e he⟩) (fun hG => ?_) (fun op1 j1 hj0 hj1 hG => ?_) <;> (conv => whnf))
    | (refine augment_st C hG (by omega) (fun ha hl hG => ?_) (fun hG => ?_) <;> (conv => whnf))
    | (intro (hmx : _ ≤ maxLen); (conv => whnf))
    | (refine is_stf C hG (by first | decide | exact cl_ne) (by omega) (fun hG => ?_) (fun hG => ?_) <;> (conv => whnf))
    | (refine want_kn C (by decide) (by omega) hb ?_; intro hl; (conv => whnf))
    | (refine ⟨rfl, ?_⟩; (conv => whnf))
    | (refine ⟨bdA (by simp only [List.length_append, List.length_cons, List.length_nil, ndsS_len]; omega), ?_⟩; (conv => whnf))
    | exact hQ _ _ hG (by omega)
    | (refine fail_st C (by omega) hG (by intro e he; first | exact hE e he | exact ⟨True.intro, hE e he⟩))
    | (refine tc_self (rd_wr C hl) ?_)
    | (refine ifT_c (fun h => by exfalso; simp at h; omega) (fun h => ?_); (conv => whnf))
    | (refine ifT_c (fun h => ?_) (fun h => by exfalso; simp at h; omega); (conv => whnf))
    | (refine q_eq ?_ ?_ (hQ _ _ hG (by omega)) <;> first | rfl | exact sn_agg rfl | exact sn_row rfl | exact rd_wr C hl)
  refine loop_0 (fun m s => ∃ k l x o ks j, s = ⟨0, [oR sl j, oN nzC, oN (nA k l x o ks)]⟩ ∧ j ≤ ts.length ∧ m ≤ f ∧ Gd E P (gr ts m (.termL (.mk k l x o ks)) j)) f [] rfl ⟨_, _, _, _, _, _, rfl, by omega, Nat.le_refl _, hG⟩ ?_
  rintro m f1 s ⟨k, l, x, o, ks, j, rfl, hj, hmf, hG⟩
  rcases m with _ | m
  · exact hG.elim
  have ihm := ih m (by omega)
  simp only [gr] at hG
  (conv => whnf)
  repeat' first
      | (refine has_st C hG (by first | decide | exact cl_ne) (by omega) (fun hl hG => ?_) (fun hG => ?_) <;> (conv => whnf))
      | (refine now_tc C (by omega) ?_; (conv => whnf))
      | (refine want_st C hG (by first | decide | exact cl_ne) (by omega) (by intro e he; first | exact hE e he | exact ⟨True.intro, hE e he⟩) ?_; intro hl hG; (conv => whnf))
      | (refine is_st C hG (by first | decide | exact cl_ne) (by omega) (fun hb hl hG => ?_) (fun hb hG => ?_) <;> (conv => whnf))
      | (refine wantK_st C hG (by decide) (by omega) (by intro e he; first | exact hE e he | exact ⟨True.intro, hE e he⟩) ?_; intro hl hG; (conv => whnf))
      | (refine begins_st C hG (by omega) (fun hG => ?_) (fun hG => ?_) <;> (conv => whnf))
      | (refine kind_st C hG (by decide) (by omega) (fun hl hG => ?_) (fun hG => ?_) <;> (conv => whnf))
      | (refine rul_st ihm.factor hG (by trivial) rfl (by intro e he; first | exact hE e he | exact ⟨True.intro, hE e he⟩) (by omega) ?_; intro n1 l1 x1 o1 ks1 j1 hp1 hj1 hG; simp only [NT.min] at hp1; (conv => whnf))
      | (refine tal_st ihm.factor hG (by trivial) rfl (by intro e he; first | exact hE e he | exact ⟨True.intro, hE e he⟩) (by omega) ?_; intro n1 l1 x1 o1 ks1 j1 hp1 hj1 hG; simp only [NT.min] at hp1; (conv => whnf))
      | (refine single_st hG (fun hG => ?_) (fun hG => ?_) <;> (conv => whnf))
      | (refine place_st hG (fun hG => ?_) (fun hG => ?_) <;> (conv => whnf))
      | (refine operator_st C hG (by omega) (by intro e he; first | exact hE e he | exact ⟨True.intro, hE e he⟩) (fun hG => ?_) (fun op1 j1 hj0 hj1 hG => ?_) <;> (conv => whnf))
      | (refine augment_st C hG (by omega) (fun ha hl hG => ?_) (fun hG => ?_) <;> (conv => whnf))
      | (intro (hmx : _ ≤ maxLen); (conv => whnf))
      | (refine is_stf C hG (by first | decide | exact cl_ne) (by omega) (fun hG => ?_) (fun hG => ?_) <;> (conv => whnf))
      | (refine want_kn C (by decide) (by omega) hb ?_; intro hl; (conv => whnf))
      | exact ⟨m, [], by omega, rfl, _, _, _, _, _, _, rfl, by omega, by omega, hG⟩
      | (refine ⟨rfl, ?_⟩; (conv => whnf))
      | (refine ⟨bdA (by simp only [List.length_append, List.length_cons, List.length_nil, ndsS_len]; omega), ?_⟩; (conv => whnf))
      | exact hQ _ _ hG (by omega)
      | (refine fail_st C (by omega) hG (by intro e he; first | exact hE e he | exact ⟨True.intro, hE e he⟩))
      | (refine tc_self (rd_wr C hl) ?_)
      | (refine ifT_c (fun h => by exfalso; simp at h; omega) (fun h => ?_); (conv => whnf))
      | (refine ifT_c (fun h => ?_) (fun h => by exfalso; simp at h; omega); (conv => whnf))
      | (refine q_eq ?_ ?_ (hQ _ _ hG (by omega)) <;> first | rfl | exact sn_agg rfl | exact sn_row rfl | exact rd_wr C hl)
set_option maxHeartbeats 4000000 in
theorem pw_primary (C : PCtx Z X W ts sl) (ih : ∀ g, g ≤ f → PAll Z X W ts sl g) : PC Z X W ts sl (f + 1) .primary 43 [.ptr 0 0] ans1 := by
  intro   i Q R E P hi hG hE hQ
  have ihf := ih f (Nat.le_refl f)
  have hln := C.len
  have hG0 := hG
  simp only [gr] at hG
  refine tc_rG dt_ok (by rfl) (by kernel_rfl) ?_
  conv in (rF _ _).body => reduce
  conv in (rF _ _).res => reduce
  conv => whnf
  repeat' first
    | (refine has_st C hG (by first | decide | exact cl_ne) (by omega) (fun hl hG => ?_) (fun hG => ?_) <;> (conv => whnf))
    | (refine now_tc C (by omega) ?_; (conv => whnf))
    | (refine want_st C hG (by first | decide | exact cl_ne) (by omega) (by intro e he; first | exact hE e he | exact ⟨True.intro, hE e he⟩) ?_; intro hl hG; (conv => whnf))
    | (refine is_st C hG (by first | decide | exact cl_ne) (by omega) (fun hb hl hG => ?_) (fun hb hG => ?_) <;> (conv => whnf))
    | (refine wantK_st C hG (by decide) (by omega) (by intro e he; first | exact hE e he | exact ⟨True.intro, hE e he⟩) ?_; intro hl hG; (conv => whnf))
    | (refine begins_st C hG (by omega) (fun hG => ?_) (fun hG => ?_) <;> (conv => whnf))
    | (refine kind_st C hG (by decide) (by omega) (fun hl hG => ?_) (fun hG => ?_) <;> (conv => whnf))
    | (refine rul_st ihf.atom hG (by trivial) rfl (by intro e he; first | exact hE e he | exact ⟨True.intro, hE e he⟩) (by omega) ?_; intro n1 l1 x1 o1 ks1 j1 hp1 hj1 hG; simp only [NT.min] at hp1; (conv => whnf))
    | (refine tal_st ihf.atom hG (by trivial) rfl (by intro e he; first | exact hE e he | exact ⟨True.intro, hE e he⟩) (by omega) ?_; intro n1 l1 x1 o1 ks1 j1 hp1 hj1 hG; simp only [NT.min] at hp1; (conv => whnf))
    | (refine lst_st (ihf.row _ (by decide)) hG (by trivial) rfl (by intro e he; first | exact hE e he | exact ⟨True.intro, hE e he⟩) (by omega) ?_; intro l1 j1 hp1 hj1 hb1 hG; simp only [NT.acc, Option.getD_some, List.length_nil] at hb1; (conv => whnf))
    | (refine rul_st (ihf.index _ _ _ _ _) hG (by trivial) rfl (by intro e he; first | exact hE e he | exact ⟨True.intro, hE e he⟩) (by omega) ?_; intro n1 l1 x1 o1 ks1 j1 hp1 hj1 hG; simp only [NT.min] at hp1; (conv => whnf))
    | (refine tal_st (ihf.index _ _ _ _ _) hG (by trivial) rfl (by intro e he; first | exact hE e he | exact ⟨True.intro, hE e he⟩) (by omega) ?_; intro n1 l1 x1 o1 ks1 j1 hp1 hj1 hG; simp only [NT.min] at hp1; (conv => whnf))
    | (refine single_st hG (fun hG => ?_) (fun hG => ?_) <;> (conv => whnf))
    | (refine place_st hG (fun hG => ?_) (fun hG => ?_) <;> (conv => whnf))
    | (refine operator_st C hG (by omega) (by intro e he; first | exact hE e he | exact ⟨True.intro, hE e he⟩) (fun hG => ?_) (fun op1 j1 hj0 hj1 hG => ?_) <;> (conv => whnf))
    | (refine augment_st C hG (by omega) (fun ha hl hG => ?_) (fun hG => ?_) <;> (conv => whnf))
    | (intro (hmx : _ ≤ maxLen); (conv => whnf))
    | (refine is_stf C hG (by first | decide | exact cl_ne) (by omega) (fun hG => ?_) (fun hG => ?_) <;> (conv => whnf))
    | (refine want_kn C (by decide) (by omega) hb ?_; intro hl; (conv => whnf))
    | (refine ⟨rfl, ?_⟩; (conv => whnf))
    | (refine ⟨bdA (by simp only [List.length_append, List.length_cons, List.length_nil, ndsS_len]; omega), ?_⟩; (conv => whnf))
    | exact hQ _ _ hG (by omega)
    | (refine fail_st C (by omega) hG (by intro e he; first | exact hE e he | exact ⟨True.intro, hE e he⟩))
    | (refine tc_self (rd_wr C hl) ?_)
    | (refine ifT_c (fun h => by exfalso; simp at h; omega) (fun h => ?_); (conv => whnf))
    | (refine ifT_c (fun h => ?_) (fun h => by exfalso; simp at h; omega); (conv => whnf))
    | (refine q_eq ?_ ?_ (hQ _ _ hG (by omega)) <;> first | rfl | exact sn_agg rfl | exact sn_row rfl | exact rd_wr C hl)
  refine loop_0 (fun m s => ∃ k l x o ks j, s = ⟨0, [oR sl j, oN nzC, oN (nA k l x o ks)]⟩ ∧ j ≤ ts.length ∧ m ≤ f ∧ Gd E P (gr ts m (.primL (.mk k l x o ks)) j)) f [] rfl ⟨_, _, _, _, _, _, rfl, by omega, Nat.le_refl _, hG⟩ ?_
  rintro m f1 s ⟨k, l, x, o, ks, j, rfl, hj, hmf, hG⟩
  rcases m with _ | m
  · exact hG.elim
  have ihm := ih m (by omega)
  simp only [gr] at hG
  (conv => whnf)
  repeat' first
      | (refine has_st C hG (by first | decide | exact cl_ne) (by omega) (fun hl hG => ?_) (fun hG => ?_) <;> (conv => whnf))
      | (refine now_tc C (by omega) ?_; (conv => whnf))
      | (refine want_st C hG (by first | decide | exact cl_ne) (by omega) (by intro e he; first | exact hE e he | exact ⟨True.intro, hE e he⟩) ?_; intro hl hG; (conv => whnf))
      | (refine is_st C hG (by first | decide | exact cl_ne) (by omega) (fun hb hl hG => ?_) (fun hb hG => ?_) <;> (conv => whnf))
      | (refine wantK_st C hG (by decide) (by omega) (by intro e he; first | exact hE e he | exact ⟨True.intro, hE e he⟩) ?_; intro hl hG; (conv => whnf))
      | (refine begins_st C hG (by omega) (fun hG => ?_) (fun hG => ?_) <;> (conv => whnf))
      | (refine kind_st C hG (by decide) (by omega) (fun hl hG => ?_) (fun hG => ?_) <;> (conv => whnf))
      | (refine rul_st ihm.atom hG (by trivial) rfl (by intro e he; first | exact hE e he | exact ⟨True.intro, hE e he⟩) (by omega) ?_; intro n1 l1 x1 o1 ks1 j1 hp1 hj1 hG; simp only [NT.min] at hp1; (conv => whnf))
      | (refine tal_st ihm.atom hG (by trivial) rfl (by intro e he; first | exact hE e he | exact ⟨True.intro, hE e he⟩) (by omega) ?_; intro n1 l1 x1 o1 ks1 j1 hp1 hj1 hG; simp only [NT.min] at hp1; (conv => whnf))
      | (refine lst_st (ihm.row _ (by decide)) hG (by trivial) rfl (by intro e he; first | exact hE e he | exact ⟨True.intro, hE e he⟩) (by omega) ?_; intro l1 j1 hp1 hj1 hb1 hG; simp only [NT.acc, Option.getD_some, List.length_nil] at hb1; (conv => whnf))
      | (refine rul_st (ihm.index _ _ _ _ _) hG (by trivial) rfl (by intro e he; first | exact hE e he | exact ⟨True.intro, hE e he⟩) (by omega) ?_; intro n1 l1 x1 o1 ks1 j1 hp1 hj1 hG; simp only [NT.min] at hp1; (conv => whnf))
      | (refine tal_st (ihm.index _ _ _ _ _) hG (by trivial) rfl (by intro e he; first | exact hE e he | exact ⟨True.intro, hE e he⟩) (by omega) ?_; intro n1 l1 x1 o1 ks1 j1 hp1 hj1 hG; simp only [NT.min] at hp1; (conv => whnf))
      | (refine single_st hG (fun hG => ?_) (fun hG => ?_) <;> (conv => whnf))
      | (refine place_st hG (fun hG => ?_) (fun hG => ?_) <;> (conv => whnf))
      | (refine operator_st C hG (by omega) (by intro e he; first | exact hE e he | exact ⟨True.intro, hE e he⟩) (fun hG => ?_) (fun op1 j1 hj0 hj1 hG => ?_) <;> (conv => whnf))
      | (refine augment_st C hG (by omega) (fun ha hl hG => ?_) (fun hG => ?_) <;> (conv => whnf))
      | (intro (hmx : _ ≤ maxLen); (conv => whnf))
      | (refine is_stf C hG (by first | decide | exact cl_ne) (by omega) (fun hG => ?_) (fun hG => ?_) <;> (conv => whnf))
      | (refine want_kn C (by decide) (by omega) hb ?_; intro hl; (conv => whnf))
      | exact ⟨m, [], by omega, rfl, _, _, _, _, _, _, rfl, by omega, by omega, hG⟩
      | (refine ⟨rfl, ?_⟩; (conv => whnf))
      | (refine ⟨bdA (by simp only [List.length_append, List.length_cons, List.length_nil, ndsS_len]; omega), ?_⟩; (conv => whnf))
      | exact hQ _ _ hG (by omega)
      | (refine fail_st C (by omega) hG (by intro e he; first | exact hE e he | exact ⟨True.intro, hE e he⟩))
      | (refine tc_self (rd_wr C hl) ?_)
      | (refine ifT_c (fun h => by exfalso; simp at h; omega) (fun h => ?_); (conv => whnf))
      | (refine ifT_c (fun h => ?_) (fun h => by exfalso; simp at h; omega); (conv => whnf))
      | (refine q_eq ?_ ?_ (hQ _ _ hG (by omega)) <;> first | rfl | exact sn_agg rfl | exact sn_row rfl | exact rd_wr C hl)
end
end Can
end Go.Proofs.Ytnkfdkfmdeibfaa
end
section
namespace Go.Proofs.Ytnkfdkfmdeibfaa
namespace Can
open Go Go.RowKit
set_option linter.unusedSimpArgs false
set_option linter.unusedVariables false
set_option maxRecDepth 4000
attribute [local irreducible] TC isT nowT begT placeN
section
variable {Z : TP} {X : Pan} {W : Int → Value} {ts : List PT} {sl : Sl} {f : Nat}
set_option maxHeartbeats 4000000 in
theorem pw_exprs (C : PCtx Z X W ts sl) (ih : ∀ g, g ≤ f → PAll Z X W ts sl g) : PC Z X W ts sl (f + 1) .exprs 26 [.ptr 0 0] ans1 := by
  intro   i Q R E P hi hG hE hQ
  have ihf := ih f (Nat.le_refl f)
  have hln := C.len
  have hG0 := hG
  simp only [gr] at hG
  refine tc_rG dt_ok (by rfl) (by kernel_rfl) ?_
  conv in (rF _ _).body => reduce
  conv in (rF _ _).res => reduce
  conv => whnf
  repeat' first
    | (refine has_st C hG (by first | decide | exact cl_ne) (by omega) (fun hl hG => ?_) (fun hG => ?_) <;> (conv => whnf))
    | (refine now_tc C (by omega) ?_; (conv => whnf))
    | (refine want_st C hG (by first | decide | exact cl_ne) (by omega) (by intro e he; first | exact hE e he | exact ⟨True.intro, hE e he⟩) ?_; intro hl hG; (conv => whnf))
    | (refine is_st C hG (by first | decide | exact cl_ne) (by omega) (fun hb hl hG => ?_) (fun hb hG => ?_) <;> (conv => whnf))
    | (refine wantK_st C hG (by decide) (by omega) (by intro e he; first | exact hE e he | exact ⟨True.intro, hE e he⟩) ?_; intro hl hG; (conv => whnf))
    | (refine begins_st C hG (by omega) (fun hG => ?_) (fun hG => ?_) <;> (conv => whnf))
    | (refine kind_st C hG (by decide) (by omega) (fun hl hG => ?_) (fun hG => ?_) <;> (conv => whnf))
    | (refine rul_st ihf.expr hG (by trivial) rfl (by intro e he; first | exact hE e he | exact ⟨True.intro, hE e he⟩) (by omega) ?_; intro n1 l1 x1 o1 ks1 j1 hp1 hj1 hG; simp only [NT.min] at hp1; (conv => whnf))
    | (refine tal_st ihf.expr hG (by trivial) rfl (by intro e he; first | exact hE e he | exact ⟨True.intro, hE e he⟩) (by omega) ?_; intro n1 l1 x1 o1 ks1 j1 hp1 hj1 hG; simp only [NT.min] at hp1; (conv => whnf))
    | (refine single_st hG (fun hG => ?_) (fun hG => ?_) <;> (conv => whnf))
    | (refine place_st hG (fun hG => ?_) (fun hG => ?_) <;> (conv => whnf))
    | (refine operator_st C hG (by omega) (by intro e he; first | exact hE e he | exact ⟨True.intro, hE e he⟩) (fun hG => ?_) (fun op1 j1 hj0 hj1 hG => ?_) <;> (conv => whnf))
    | (refine augment_st C hG (by omega) (fun ha hl hG => ?_) (fun hG => ?_) <;> (conv => whnf))
    | (intro (hmx : _ ≤ maxLen); (conv => whnf))
    | (refine is_stf C hG (by first | decide | exact cl_ne) (by omega) (fun hG => ?_) (fun hG => ?_) <;> (conv => whnf))
    | (refine want_kn C (by decide) (by omega) hb ?_; intro hl; (conv => whnf))
    | (refine ⟨rfl, ?_⟩; (conv => whnf))
    | (refine ⟨bdA (by simp only [List.length_append, List.length_cons, List.length_nil, ndsS_len]; omega), ?_⟩; (conv => whnf))
    | exact hQ _ _ hG (by omega)
    | (refine fail_st C (by omega) hG (by intro e he; first | exact hE e he | exact ⟨True.intro, hE e he⟩))
    | (refine tc_self (rd_wr C hl) ?_)
    | (refine ifT_c (fun h => by exfalso; simp at h; omega) (fun h => ?_); (conv => whnf))
    | (refine ifT_c (fun h => ?_) (fun h => by exfalso; simp at h; omega); (conv => whnf))
    | (refine q_eq ?_ ?_ (hQ _ _ hG (by omega)) <;> first | rfl | exact sn_agg rfl | exact sn_row rfl | exact rd_wr C hl)
  refine loop_0 (fun m s => ∃ k l x o ks acc j ln, s = ⟨1, [oR sl j, oN nzC, oN (nA k l x o ks), oN (nC 52 ln [] 0 (.own 0 28 5 (ndsS acc)))]⟩ ∧ j ≤ ts.length ∧ m ≤ f ∧ 2 * acc.length ≤ j + 1 ∧ Gd E P (gr ts m (.exprsL ln acc) j)) f [0] rfl ⟨_, _, _, _, _, [.mk n1 l1 x1 o1 ks1], _, _, rfl, by omega, Nat.le_refl _, by simp only [List.length_cons, List.length_nil]; omega, hG⟩ ?_
  rintro m f1 s ⟨k, l, x, o, ks, acc, j, ln, rfl, hj, hmf, hb2, hG⟩
  rcases m with _ | m
  · exact hG.elim
  have ihm := ih m (by omega)
  simp only [gr] at hG
  (conv => whnf)
  repeat' first
      | (refine has_st C hG (by first | decide | exact cl_ne) (by omega) (fun hl hG => ?_) (fun hG => ?_) <;> (conv => whnf))
      | (refine now_tc C (by omega) ?_; (conv => whnf))
      | (refine want_st C hG (by first | decide | exact cl_ne) (by omega) (by intro e he; first | exact hE e he | exact ⟨True.intro, hE e he⟩) ?_; intro hl hG; (conv => whnf))
      | (refine is_st C hG (by first | decide | exact cl_ne) (by omega) (fun hb hl hG => ?_) (fun hb hG => ?_) <;> (conv => whnf))
      | (refine wantK_st C hG (by decide) (by omega) (by intro e he; first | exact hE e he | exact ⟨True.intro, hE e he⟩) ?_; intro hl hG; (conv => whnf))
      | (refine begins_st C hG (by omega) (fun hG => ?_) (fun hG => ?_) <;> (conv => whnf))
      | (refine kind_st C hG (by decide) (by omega) (fun hl hG => ?_) (fun hG => ?_) <;> (conv => whnf))
      | (refine rul_st ihm.expr hG (by trivial) rfl (by intro e he; first | exact hE e he | exact ⟨True.intro, hE e he⟩) (by omega) ?_; intro n1 l1 x1 o1 ks1 j1 hp1 hj1 hG; simp only [NT.min] at hp1; (conv => whnf))
      | (refine tal_st ihm.expr hG (by trivial) rfl (by intro e he; first | exact hE e he | exact ⟨True.intro, hE e he⟩) (by omega) ?_; intro n1 l1 x1 o1 ks1 j1 hp1 hj1 hG; simp only [NT.min] at hp1; (conv => whnf))
      | (refine single_st hG (fun hG => ?_) (fun hG => ?_) <;> (conv => whnf))
      | (refine place_st hG (fun hG => ?_) (fun hG => ?_) <;> (conv => whnf))
      | (refine operator_st C hG (by omega) (by intro e he; first | exact hE e he | exact ⟨True.intro, hE e he⟩) (fun hG => ?_) (fun op1 j1 hj0 hj1 hG => ?_) <;> (conv => whnf))
      | (refine augment_st C hG (by omega) (fun ha hl hG => ?_) (fun hG => ?_) <;> (conv => whnf))
      | (intro (hmx : _ ≤ maxLen); (conv => whnf))
      | (refine is_stf C hG (by first | decide | exact cl_ne) (by omega) (fun hG => ?_) (fun hG => ?_) <;> (conv => whnf))
      | (refine want_kn C (by decide) (by omega) hb ?_; intro hl; (conv => whnf))
      | exact ⟨m, [2], by omega, rfl, _, _, _, _, _, acc ++ [.mk n1 l1 x1 o1 ks1], _, _, (by rw [ndsS_snoc]; rfl), by omega, by omega, (by simp only [List.length_append, List.length_cons, List.length_nil]; omega), hG⟩
      | (refine ⟨rfl, ?_⟩; (conv => whnf))
      | (refine ⟨bdA (by simp only [List.length_append, List.length_cons, List.length_nil, ndsS_len]; omega), ?_⟩; (conv => whnf))
      | exact hQ _ _ hG (by omega)
      | (refine fail_st C (by omega) hG (by intro e he; first | exact hE e he | exact ⟨True.intro, hE e he⟩))
      | (refine tc_self (rd_wr C hl) ?_)
      | (refine ifT_c (fun h => by exfalso; simp at h; omega) (fun h => ?_); (conv => whnf))
      | (refine ifT_c (fun h => ?_) (fun h => by exfalso; simp at h; omega); (conv => whnf))
      | (refine q_eq ?_ ?_ (hQ _ _ hG (by omega)) <;> first | rfl | exact sn_agg rfl | exact sn_row rfl | exact rd_wr C hl)
set_option maxHeartbeats 4000000 in
theorem pw_places (C : PCtx Z X W ts sl) (ih : ∀ g, g ≤ f → PAll Z X W ts sl g) : PC Z X W ts sl (f + 1) .places 25 [.ptr 0 0] ans1 := by
  intro   i Q R E P hi hG hE hQ
  have ihf := ih f (Nat.le_refl f)
  have hln := C.len
  have hG0 := hG
  simp only [gr] at hG
  refine tc_rG dt_ok (by rfl) (by kernel_rfl) ?_
  conv in (rF _ _).body => reduce
  conv in (rF _ _).res => reduce
  conv => whnf
  repeat' first
    | (refine has_st C hG (by first | decide | exact cl_ne) (by omega) (fun hl hG => ?_) (fun hG => ?_) <;> (conv => whnf))
    | (refine now_tc C (by omega) ?_; (conv => whnf))
    | (refine want_st C hG (by first | decide | exact cl_ne) (by omega) (by intro e he; first | exact hE e he | exact ⟨True.intro, hE e he⟩) ?_; intro hl hG; (conv => whnf))
    | (refine is_st C hG (by first | decide | exact cl_ne) (by omega) (fun hb hl hG => ?_) (fun hb hG => ?_) <;> (conv => whnf))
    | (refine wantK_st C hG (by decide) (by omega) (by intro e he; first | exact hE e he | exact ⟨True.intro, hE e he⟩) ?_; intro hl hG; (conv => whnf))
    | (refine begins_st C hG (by omega) (fun hG => ?_) (fun hG => ?_) <;> (conv => whnf))
    | (refine kind_st C hG (by decide) (by omega) (fun hl hG => ?_) (fun hG => ?_) <;> (conv => whnf))
    | (refine rul_st ihf.one hG (by trivial) rfl (by intro e he; first | exact hE e he | exact ⟨True.intro, hE e he⟩) (by omega) ?_; intro n1 l1 x1 o1 ks1 j1 hp1 hj1 hG; simp only [NT.min] at hp1; (conv => whnf))
    | (refine tal_st ihf.one hG (by trivial) rfl (by intro e he; first | exact hE e he | exact ⟨True.intro, hE e he⟩) (by omega) ?_; intro n1 l1 x1 o1 ks1 j1 hp1 hj1 hG; simp only [NT.min] at hp1; (conv => whnf))
    | (refine single_st hG (fun hG => ?_) (fun hG => ?_) <;> (conv => whnf))
    | (refine place_st hG (fun hG => ?_) (fun hG => ?_) <;> (conv => whnf))
    | (refine operator_st C hG (by omega) (by intro e he; first | exact hE e he | exact ⟨True.intro, hE e he⟩) (fun hG => ?_) (fun op1 j1 hj0 hj1 hG => ?_) <;> (conv => whnf))
    | (refine augment_st C hG (by omega) (fun ha hl hG => ?_) (fun hG => ?_) <;> (conv => whnf))
    | (intro (hmx : _ ≤ maxLen); (conv => whnf))
    | (refine is_stf C hG (by first | decide | exact cl_ne) (by omega) (fun hG => ?_) (fun hG => ?_) <;> (conv => whnf))
    | (refine want_kn C (by decide) (by omega) hb ?_; intro hl; (conv => whnf))
    | (refine ⟨rfl, ?_⟩; (conv => whnf))
    | (refine ⟨bdA (by simp only [List.length_append, List.length_cons, List.length_nil, ndsS_len]; omega), ?_⟩; (conv => whnf))
    | exact hQ _ _ hG (by omega)
    | (refine fail_st C (by omega) hG (by intro e he; first | exact hE e he | exact ⟨True.intro, hE e he⟩))
    | (refine tc_self (rd_wr C hl) ?_)
    | (refine ifT_c (fun h => by exfalso; simp at h; omega) (fun h => ?_); (conv => whnf))
    | (refine ifT_c (fun h => ?_) (fun h => by exfalso; simp at h; omega); (conv => whnf))
    | (refine q_eq ?_ ?_ (hQ _ _ hG (by omega)) <;> first | rfl | exact sn_agg rfl | exact sn_row rfl | exact rd_wr C hl)
  refine loop_0 (fun m s => ∃ k l x o ks acc j ln, s = ⟨1, [oR sl j, oN nzC, oN (nA k l x o ks), oN (nC 52 ln [] 0 (.own 0 28 5 (ndsS acc)))]⟩ ∧ j ≤ ts.length ∧ m ≤ f ∧ 2 * acc.length ≤ j + 1 ∧ Gd E P (gr ts m (.placesL ln acc) j)) f [0] rfl ⟨_, _, _, _, _, [.mk n1 l1 x1 o1 ks1], _, _, rfl, by omega, Nat.le_refl _, by simp only [List.length_cons, List.length_nil]; omega, hG⟩ ?_
  rintro m f1 s ⟨k, l, x, o, ks, acc, j, ln, rfl, hj, hmf, hb2, hG⟩
  rcases m with _ | m
  · exact hG.elim
  have ihm := ih m (by omega)
  simp only [gr] at hG
  simp only [ite_andP] at hG
  (conv => whnf)
  repeat' first
      | (refine has_st C hG (by first | decide | exact cl_ne) (by omega) (fun hl hG => ?_) (fun hG => ?_) <;> (conv => whnf))
      | (refine now_tc C (by omega) ?_; (conv => whnf))
      | (refine want_st C hG (by first | decide | exact cl_ne) (by omega) (by intro e he; first | exact hE e he | exact ⟨True.intro, hE e he⟩) ?_; intro hl hG; (conv => whnf))
      | (refine is_st C hG (by first | decide | exact cl_ne) (by omega) (fun hb hl hG => ?_) (fun hb hG => ?_) <;> (conv => whnf))
      | (refine wantK_st C hG (by decide) (by omega) (by intro e he; first | exact hE e he | exact ⟨True.intro, hE e he⟩) ?_; intro hl hG; (conv => whnf))
      | (refine begins_st C hG (by omega) (fun hG => ?_) (fun hG => ?_) <;> (conv => whnf))
      | (refine kind_st C hG (by decide) (by omega) (fun hl hG => ?_) (fun hG => ?_) <;> (conv => whnf))
      | (refine rul_st ihm.one hG (by trivial) rfl (by intro e he; first | exact hE e he | exact ⟨True.intro, hE e he⟩) (by omega) ?_; intro n1 l1 x1 o1 ks1 j1 hp1 hj1 hG; simp only [NT.min] at hp1; (conv => whnf))
      | (refine tal_st ihm.one hG (by trivial) rfl (by intro e he; first | exact hE e he | exact ⟨True.intro, hE e he⟩) (by omega) ?_; intro n1 l1 x1 o1 ks1 j1 hp1 hj1 hG; simp only [NT.min] at hp1; (conv => whnf))
      | (refine single_st hG (fun hG => ?_) (fun hG => ?_) <;> (conv => whnf))
      | (refine place_st hG (fun hG => ?_) (fun hG => ?_) <;> (conv => whnf))
      | (refine operator_st C hG (by omega) (by intro e he; first | exact hE e he | exact ⟨True.intro, hE e he⟩) (fun hG => ?_) (fun op1 j1 hj0 hj1 hG => ?_) <;> (conv => whnf))
      | (refine augment_st C hG (by omega) (fun ha hl hG => ?_) (fun hG => ?_) <;> (conv => whnf))
      | (intro (hmx : _ ≤ maxLen); (conv => whnf))
      | (refine is_stf C hG (by first | decide | exact cl_ne) (by omega) (fun hG => ?_) (fun hG => ?_) <;> (conv => whnf))
      | (refine want_kn C (by decide) (by omega) hb ?_; intro hl; (conv => whnf))
      | exact ⟨m, [2], by omega, rfl, _, _, _, _, _, acc ++ [.mk n1 l1 x1 o1 ks1], _, _, (by rw [ndsS_snoc]; rfl), by omega, by omega, (by simp only [List.length_append, List.length_cons, List.length_nil]; omega), hG⟩
      | (refine ⟨rfl, ?_⟩; (conv => whnf))
      | (refine ⟨bdA (by simp only [List.length_append, List.length_cons, List.length_nil, ndsS_len]; omega), ?_⟩; (conv => whnf))
      | exact hQ _ _ hG (by omega)
      | (refine fail_st C (by omega) hG (by intro e he; first | exact hE e he | exact ⟨True.intro, hE e he⟩))
      | (refine tc_self (rd_wr C hl) ?_)
      | (refine ifT_c (fun h => by exfalso; simp at h; omega) (fun h => ?_); (conv => whnf))
      | (refine ifT_c (fun h => ?_) (fun h => by exfalso; simp at h; omega); (conv => whnf))
      | (refine q_eq ?_ ?_ (hQ _ _ hG (by omega)) <;> first | rfl | exact sn_agg rfl | exact sn_row rfl | exact rd_wr C hl)
end
end Can
end Go.Proofs.Ytnkfdkfmdeibfaa
end
