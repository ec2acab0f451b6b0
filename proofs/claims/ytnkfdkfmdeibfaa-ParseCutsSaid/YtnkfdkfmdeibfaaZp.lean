/- Parse, its laws: ParseCuts walked. -/
import Derived.Test.YtnkfdkfmdeibfaaZo
namespace Go.Proofs.Ytnkfdkfmdeibfaa
namespace Can
open Go Go.RowKit
set_option linter.unusedSimpArgs false
set_option linter.unusedVariables false
set_option maxRecDepth 4000
theorem toks_k0 {line : Nat} : ∀ {f : Nat} {t : List UInt8} {d d' : Nat} {x : List Tok}, toks line f t d = some (x, d') → ∀ y ∈ x, y.kind ≠ 0 := fun h y hy => by
  have := (toks_kind h).1 y hy
  omega
theorem rowT_k0 {line d d' : Nat} {t : List UInt8} {st st' : List Nat} {x : List Tok} (h : rowT line t d st = .ok (x, d', st')) : ∀ y ∈ x, y.kind ≠ 0 := by
  unfold rowT at h
  split at h
  · cases h; intro y hy; cases hy
  · split at h
    · cases h
    · split at h
      · cases h
      · rename_i ts d1 ht
        cases h
        intro y hy
        simp only [List.mem_append] at hy
        rcases hy with (hy | hy) | hy
        · split at hy
          · unfold indT at hy
            split at hy
            · simp at hy; rw [hy]; simp
            · rw [List.eq_of_mem_replicate hy]; simp
          · cases hy
        · exact toks_k0 ht y hy
        · split at hy
          · simp at hy; rw [hy]; simp
          · cases hy
theorem rowsT_k0 : ∀ {ts : List (List UInt8)} {line d : Nat} {st st' : List Nat} {x : List Tok}, rowsT line ts d st = .ok (x, st') → ∀ y ∈ x, y.kind ≠ 0
  | [], line, d, st, st', x, h => by cases h; intro y hy; cases hy
  | t :: ts, line, d, st, st', x, h => by
    rw [rowsT_cons] at h
    cases hr : rowT line t d st with
    | error e => rw [hr] at h; cases h
    | ok q =>
      obtain ⟨x1, d1, st1⟩ := q
      rw [hr] at h
      simp only at h
      cases hq : rowsT (line + 1) ts d1 st1 with
      | error e => rw [hq] at h; cases h
      | ok w =>
        rw [hq] at h
        cases h
        intro y hy
        rcases List.mem_append.1 hy with hy | hy
        · exact rowT_k0 hr y hy
        · exact rowsT_k0 hq y hy
theorem lexT_k0 {src : List UInt8} {ts : List Tok} (h : lexT src = .ok ts) : ∃ y z, ts = y ++ [z] ∧ ∀ t ∈ y, t.kind ≠ 0 := by
  unfold lexT at h
  split at h
  · cases h
  · cases hr : rowsT 1 (splitN src) 0 [0] with
    | error e => rw [hr] at h; cases h
    | ok w =>
      rw [hr] at h
      cases h
      refine ⟨w.1 ++ List.replicate (w.2.length - 1) ⟨3, (splitN src).length, []⟩, _, by rw [endT, List.append_assoc], fun t ht => ?_⟩
      rcases List.mem_append.1 ht with ht | ht
      · exact rowsT_k0 hr t ht
      · rw [List.eq_of_mem_replicate ht]; simp
theorem sourceT_ok {src : List UInt8} {t : Nd} (h : sourceT src = (t, 0, 0)) : ∃ ts, lexT src = .ok ts ∧ parseT (ts.map ptT) = (t, 0, 0) := by
  unfold sourceT at h
  cases hL : lexT src with
  | ok ts => rw [hL] at h; exact ⟨ts, rfl, h⟩
  | error y =>
    rw [hL] at h
    exfalso
    have h2 : (y.2 : Int) = 0 := congrArg (fun x => x.2.2) h
    by_cases hl : src.length ≤ 20000
    · rcases (lexT_err2 hl hL).2 with e | e <;> omega
    · unfold lexT at hL
      rw [if_pos (by omega)] at hL
      cases hL
      cases h2
theorem source_cuts {src more : List UInt8} {ta tb : Nd} (ha : sourceT (src ++ [10]) = (ta, 0, 0)) (hb : sourceT more = (tb, 0, 0)) (hl : src.length + 1 + more.length ≤ 20000) : ∃ tc la lb, sourceT (src ++ [10] ++ more) = (tc, 0, 0) ∧ tc.kids = la ++ lb ∧ NRs true ta.kids la ∧ NRs false tb.kids lb := by
  obtain ⟨a, hLa, hpa⟩ := sourceT_ok ha
  obtain ⟨b, hLb, hpb⟩ := sourceT_ok hb
  have h2 : ∀ z ∈ b.head?, z.kind ≠ 2 := fun z hz hk => by
    obtain ⟨l, j, hg, _, _⟩ := parseT_inv hpb
    have := (top_first hg).2.1
    cases b with
    | nil => cases hz
    | cons c r =>
      have e : c = z := by simpa using hz
      subst e
      exact this (by show ((c.kind : Nat) : Int) = 2; rw [hk]; rfl)
  obtain ⟨n, x, k, rfl, hn, hc⟩ := lex_join hLa hLb hl h2
  have hx : ∀ t ∈ x.map ptT, t.kind ≠ 0 := fun t ht => by
    obtain ⟨u, hu, rfl⟩ := List.mem_map.1 ht
    obtain ⟨y, z, he, hy⟩ := lexT_k0 hLa
    have : u ∈ y := by
      have e2 : x ++ List.replicate k ⟨3, n + 1, []⟩ = y := by
        rw [← List.append_assoc] at he
        exact (List.append_inj' he rfl).1
      rw [← e2]
      exact List.mem_append_left _ hu
    have := hy u this
    show ((u.kind : Nat) : Int) ≠ 0
    omega
  have hfr : (x ++ (List.replicate k (⟨3, n + 1, []⟩ : Tok) ++ [(⟨0, n + 1, []⟩ : Tok)])).map ptT = frT (x.map ptT) k ((n + 1 : Nat) : Int) := by
    simp [frT, ptT]
  rw [hfr] at hpa
  rcases hc with ⟨_, x0, z, rfl, z1, z3⟩ | ⟨_, os, hol, ho, hLc⟩
  · rw [List.map_append, List.map_cons, List.map_nil] at hpa hx
    exact absurd hpa (cuts_no hx (by show ((z.kind : Nat) : Int) ≠ 1; omega) (by show ((z.kind : Nat) : Int) ≠ 3; omega))
  · obtain ⟨tc, la, lb, h1, h3, h4, h5⟩ := cuts_yes (os := os.map ptT) (b := b.map ptT) (b' := (b.map (shT n)).map ptT) hx (by rw [List.length_map]; exact hol) (fun o ho' => by
      obtain ⟨u, hu, rfl⟩ := List.mem_map.1 ho'
      show ((u.kind : Nat) : Int) = 3
      rw [ho u hu]; rfl) (by simp) (fun i h1 h2 => by simp [ptT, shT]) hpa hpb
    refine ⟨tc, la, lb, ?_, h3, h4, h5⟩
    unfold sourceT
    rw [hLc]
    show parseT ((x ++ os ++ b.map (shT n)).map ptT) = _
    rw [List.map_append, List.map_append]
    exact h1
mutual
theorem NR.symm {ln : Bool} : ∀ {a b : Nd}, NR ln a b → NR ln b a
  | _, _, .mk hl hs => .mk (fun h => (hl h).symm) (NRs.symm hs)
theorem NRs.symm {ln : Bool} : ∀ {a b : List Nd}, NRs ln a b → NRs ln b a
  | _, _, .nil => .nil
  | _, _, .cons h t => .cons (NR.symm h) (NRs.symm t)
end
theorem NRs.get {ln : Bool} : ∀ {a b : List Nd}, NRs ln a b → ∀ {i : Nat} {x : Nd}, a[i]? = some x → ∃ y, b[i]? = some y ∧ NR ln x y
  | _, _, .nil, i, x, h => by simp at h
  | _, _, .cons h t, 0, x, e => by simp at e; subst e; exact ⟨_, rfl, h⟩
  | _, _, .cons h t, i + 1, x, e => by simpa using t.get (i := i) (by simpa using e)
theorem sourceT_0 {src : List UInt8} (h : (sourceT src).2.2 = 0) : sourceT src = ((sourceT src).1, 0, 0) := by
  unfold sourceT at h ⊢
  cases hL : lexT src with
  | error y =>
    rw [hL] at h
    exfalso
    have h2 : (y.2 : Int) = 0 := h
    by_cases hl : src.length ≤ 20000
    · rcases (lexT_err2 hl hL).2 with e | e <;> omega
    · unfold lexT at hL
      rw [if_pos (by omega)] at hL
      cases hL
      cases h2
  | ok ts =>
    rw [hL] at h
    show parseT (ts.map ptT) = ((parseT (ts.map ptT)).1, 0, 0)
    have h : (parseT (ts.map ptT)).2.2 = 0 := h
    revert h
    generalize ts.map ptT = us
    intro h
    obtain ⟨r, hr⟩ := gr_top us
    match r, hr with
    | .error e, hr =>
      rw [parseT_err hr] at h
      exact absurd h (by show ¬ ((22 : Int) = 0); decide)
    | .ok (l, j), hr =>
      obtain ⟨a, er, e1, e2⟩ := parseT_ok hr
      rw [e1] at h ⊢
      have h : er = 0 := h
      rw [h]
theorem grw_byt {A K : CH} {e : TypeId} (hA : HExt A K) : Grw A e 1 (ints .u8) (K.new (.cells [] e .ex)) (.slice (some ⟨K.nx, 0, none⟩) 0 0) [] :=
  .inr ⟨K.nx, .ex, rfl, hA.nx, Nat.lt_succ_self _, new_get.trans (if_pos rfl), rfl⟩
theorem u8i_app {a b : List UInt8} : u8i (a ++ b) = u8i a ++ u8i b := by simp [u8i]
theorem u8i_wf {src : List UInt8} : ∀ x ∈ u8i src, (Lit.int .u8 x).wf = true := fun x hx => by
  obtain ⟨c, _, rfl⟩ := List.mem_map.1 hx
  have := c.toNat_lt
  have e2 : IntKind.u8.max = 255 := by decide
  have e3 : IntKind.u8.min = 0 := by decide
  simp [Lit.wf, e2, e3]
  omega
theorem src_byt {H : CH} {q : Option Addr} {c : Nat} {src : List UInt8} (h : SlAt 1 (CInt .u8) H q c (u8i src)) : srcCells H 1 (.slice q src.length c) = some ((u8i src).flatMap (ints .u8), src.length) := by
  have := src_ints h
  rw [u8i_len] at this
  exact this
theorem grw_bsl {A K : CH} {e : TypeId} {v : Value} {src : List UInt8} (h : Grw A e 1 (ints .u8) K v (u8i src)) (hl : src.length ≤ 9223372036854775807) : ∃ q c, v = .slice q src.length c ∧ SlAt 1 (CInt .u8) K q c (u8i src) := by
  obtain ⟨q, c, h1, h2⟩ := h.sl (by rw [u8i_len]; exact hl) u8i_wf
  rw [u8i_len] at h1
  exact ⟨q, c, h1, h2⟩
def nbx (K : CH) (a1 a2 : Int) (a3 : ByteArray) (a4 : Int) (aq : Option Addr) (an ac : Nat) : CH := (K.new (.cells [.int .i64 0, .int .i64 0, .string ⟨⟨[]⟩⟩, .int .i64 0, .slice none 0 0] 28 .ex)).set K.nx (.cells [.int .i64 a1, .int .i64 a2, .string a3, .int .i64 a4, .slice aq an ac] 28 .ex)
theorem nbx_p (K : CH) (a1 a2 : Int) (a3 : ByteArray) (a4 : Int) (aq : Option Addr) (an ac : Nat) : ∃ K', nbx K a1 a2 a3 a4 aq an ac = K' ∧ HExt K K' ∧ K'.nx = K.nx + 1 ∧ K'.ob K.nx = .cells [.int .i64 a1, .int .i64 a2, .string a3, .int .i64 a4, .slice aq an ac] 28 .ex :=
  ⟨_, rfl, ((HExt.refl K).new _).set (Nat.le_refl _) _, rfl, set_get.trans (if_pos rfl)⟩
def CtJ (KD : CH) (m n : Nat) (v15 : Value) (K : CH) : Prop := ∃ i : Nat, n = m - i ∧ i ≤ m ∧ v15 = .int .i64 (i : Nat) ∧ HExt KD K
noncomputable def ctP : RCode × RCode × RCode × RCode × RCode × RCode := match (rF Try.prog 5).body with
  | .seq a (.seq b (.seq c (.seq d (.seq e f)))) => (a, b, c, d, e, f)
  | _ => (.skip, .skip, .skip, .skip, .skip, .skip)
theorem ct_body : (rF Try.prog 5).body = .seq ctP.1 (.seq ctP.2.1 (.seq ctP.2.2.1 (.seq ctP.2.2.2.1 (.seq ctP.2.2.2.2.1 ctP.2.2.2.2.2)))) := by kernel_rfl
theorem cuts_law {H : CH} {q1 q2 : Option Addr} {c1 c2 : Nat} {src more : List UInt8} (h1 : SlAt 1 (CInt .u8) H q1 c1 (u8i src)) (h2 : SlAt 1 (CInt .u8) H q2 c2 (u8i more)) (hl1 : src.length ≤ 140737488351232) (hl2 : more.length ≤ 140737488351232) : WpF TL 5 [.slice q1 src.length c1, .slice q2 more.length c2] H fun v _ => v = .bool true := by
  refine wpF_rS (by rfl) (by kernel_rfl) ?_
  rw [ct_body]
  conv in (rF _ _).res => reduce
  have e : ctP.1 = _ := rfl
  conv at e => rhs; reduce
  rw [e]
  clear e
  have e : ctP.2.1 = _ := rfl
  conv at e => rhs; reduce
  rw [e]
  clear e
  repeat' (first | (simp (disch := first | omega | (decide +kernel)) only [↓RD, RU, ↓evF_c, pop, ρ1]) | (with_reducible first | refine condK_dec (fun _ => ?_) fun _ => ?_ | refine grd_dec (fun _ => ?_) fun _ => ?_ | refine egrd_dec (fun _ => ?_) fun _ => ?_))
  refine known_wp.mono ?_
  rintro v K ⟨hK, rfl⟩
  repeat' (first | (simp (disch := first | omega | (decide +kernel)) only [↓RD, RU, ↓putF_get, ↓evF_t, u_not, pop, ρ2, ↓reduceIte]) | (with_reducible first | refine condK_dec (fun _ => ?_) fun _ => ?_ | refine grd_dec (fun _ => ?_) fun _ => ?_ | refine egrd_dec (fun _ => ?_) fun _ => ?_))
  have e : ctP.2.2.1 = _ := rfl
  conv at e => rhs; reduce
  rw [e]
  clear e
  repeat' (first | (simp (disch := first | omega | (decide +kernel)) only [↓r_reg, ↓i_cons, ↓itemK, ↓o_p, ↓o_a, ↓o_w, ↓putF_get, ↓evF_t, optV_some, optA_some, getD_zero, pop, aop, akV, List.map_nil, Option.map_some, ↓reduceIte, Nat.reduceEqDiff, Int.reduceOfNat, reduceCtorEq, List.length_cons, List.length_nil, bldV, Nat.reduceLeDiff, ↓w_app, Nat.mul_one, Nat.zero_add, and_true, zeros, List.range_zero, List.map_nil]) | (with_reducible first | refine condK_dec (fun _ => ?_) fun _ => ?_ | refine grd_dec (fun _ => ?_) fun _ => ?_ | refine egrd_dec (fun _ => ?_) fun _ => ?_))
  rw [src_byt (SlAt.good (CInt.good _) (hK.new _) h1)]
  repeat' (first | (simp (disch := first | omega | (decide +kernel)) only [appS_some]) | (with_reducible first | refine condK_dec (fun _ => ?_) fun _ => ?_ | refine grd_dec (fun _ => ?_) fun _ => ?_ | refine egrd_dec (fun _ => ?_) fun _ => ?_))
  refine optW_app (A := K) (f := ints .u8) (xs := []) (ys := u8i src) (ints_ok .u8) (grw_byt (HExt.refl K)) ((HExt.refl K).new _) (by rw [u8i_len]; simp only [List.length_nil]; omega) (by rw [u8i_len]; simp only [List.length_nil]; omega) rfl u8i_len.symm fun v1 K1 g1 x1 _ _ => ?_
  rw [List.nil_append] at g1
  repeat' (first | (simp (disch := first | omega | (decide +kernel)) only [↓i_cons, ↓itemK, ↓o_a, ↓o_w, ↓putF_get, ↓evF_t, ↓evF_c, new_get, optA_some, aop, akV, isVal, Value.cells, List.map_cons, List.map_nil, Option.map_some, ↓reduceIte, Nat.reduceEqDiff, reduceCtorEq, List.length_cons, List.length_nil, setc_0, srcR_c, src_r, List.take_succ_cons, List.drop_succ_cons, List.drop_zero, List.nil_append, List.append_nil, List.take_nil, List.drop_nil, List.size_toArray, List.toList_toArray, bldV, Nat.reduceLeDiff, Nat.le_refl, ↓w_app, appS_some, Nat.mul_one, Nat.zero_add, and_true, zeros, List.range_zero, List.map_nil, List.range_succ]) | (with_reducible first | refine condK_dec (fun _ => ?_) fun _ => ?_ | refine grd_dec (fun _ => ?_) fun _ => ?_ | refine egrd_dec (fun _ => ?_) fun _ => ?_))
  refine optW_app (A := K) (f := ints .u8) (ys := u8i [10]) (ints_ok .u8) (g1.ext ((HExt.refl K1).new _)) (x1.new _) (by rw [u8i_len, u8i_len]; show (_ + 1) * 1 ≤ _; omega) (by rw [u8i_len, u8i_len]; show _ + 1 ≤ _; omega) rfl rfl fun v2 K2 g2 x2 _ _ => ?_
  rw [← u8i_app] at g2
  obtain ⟨fs, hfs⟩ : ∃ fs, fs = src ++ [10] := ⟨_, rfl⟩
  have hfl : fs.length = src.length + 1 := by rw [hfs]; simp
  rw [← hfs] at g2
  obtain ⟨q3, c3, rfl, s3⟩ := grw_bsl g2 (by omega)
  have e : ctP.2.2.2.1 = _ := rfl
  conv at e => rhs; reduce
  rw [e]
  clear e
  repeat' (first | (simp (disch := first | omega | (decide +kernel)) only [↓RD, RU, ↓putF_get, ↓evF_t, pop, ρ0, ρ1, ↓reduceIte, Int.reduceOfNat]) | (with_reducible first | refine condK_dec (fun _ => ?_) fun _ => ?_ | refine grd_dec (fun _ => ?_) fun _ => ?_ | refine egrd_dec (fun _ => ?_) fun _ => ?_))
  refine (source_wp s3).mono ?_
  rintro v K3 ⟨vs, rfl, x3, osa, rfl, hsa⟩
  obtain ⟨a1, a2, a3, a4, aq, an, ac, rfl⟩ := nd_cells hsa
  have e : ctP.2.2.2.2.1 = _ := rfl
  conv at e => rhs; reduce
  rw [e]
  clear e
  repeat' (first | (simp (disch := first | omega | (decide +kernel)) only [↓RD, RU, ↓putF_get, ↓putF_none, ↓evF_t, new_get, getD_zero, getD_succ, pop, aop, wop, tupleV, akV, isVal, isCell, Value.cells, ρ0, ρ1, ↓reduceIte, Nat.reduceEqDiff, Nat.reduceAdd, Int.reduceOfNat, ρ5, ρ6, ρ7, ρ8, ρ17, ρ21, ρ22, ρ23, Kd.isRo, ρ25, ρ26]) | (with_reducible first | refine condK_dec (fun _ => ?_) fun _ => ?_ | refine grd_dec (fun _ => ?_) fun _ => ?_ | refine egrd_dec (fun _ => ?_) fun _ => ?_))
  obtain ⟨KA, hKA, xA, nA, oA⟩ := nbx_p K3 a1 a2 a3 a4 aq an ac
  refine (?_ : WpF TL _ _ (nbx K3 a1 a2 a3 a4 aq an ac) _)
  rw [hKA]
  have xK : HExt K KA := (x2.trans x3).trans xA
  refine (source_wp (SlAt.good (CInt.good _) (hK.trans xK) h2)).mono ?_
  rintro v K4 ⟨vs, rfl, x4, osb, rfl, hsb⟩
  obtain ⟨b1, b2, b3, b4, bq, bn, bc, rfl⟩ := nd_cells hsb
  have e : ctP.2.2.2.2.2 = _ := rfl
  conv at e => rhs; reduce
  rw [e]
  clear e
  rcases Decidable.em ((sourceT fs).2.2 = 0) with ha | ha
  rotate_left
  · repeat' (first | (simp (disch := first | omega | (decide +kernel)) only [↓RD, RU, ↓putF_get, ↓putF_none, ↓evF_t, ↓evF_c, new_get, pop, aop, wop, resL, resV, tupleV, akV, isVal, isCell, Value.cells, ↓reduceIte, Nat.reduceEqDiff, Nat.reduceAdd, Int.reduceOfNat, ρ5, ρ6, ρ7, ρ8, ρ17, ρ21, ρ22, ρ23, Kd.isRo, ρ25, ρ26]) | (with_reducible first | refine condK_dec (fun _ => ?_) fun _ => ?_ | refine grd_dec (fun _ => ?_) fun _ => ?_ | refine egrd_dec (fun _ => ?_) fun _ => ?_))
  rcases Decidable.em ((sourceT more).2.2 = 0) with hb | hb
  rotate_left
  · repeat' (first | (simp (disch := first | omega | (decide +kernel)) only [↓RD, RU, ↓putF_get, ↓putF_none, ↓evF_t, ↓evF_c, new_get, pop, aop, wop, resL, resV, tupleV, akV, isVal, isCell, Value.cells, ↓reduceIte, Nat.reduceEqDiff, Nat.reduceAdd, Int.reduceOfNat, reduceCtorEq, ρ5, ρ6, ρ7, ρ8, ρ17, ρ21, ρ22, ρ23, Kd.isRo, ρ25, ρ26, ha]) | (with_reducible first | refine condK_dec (fun _ => ?_) fun _ => ?_ | refine grd_dec (fun _ => ?_) fun _ => ?_ | refine egrd_dec (fun _ => ?_) fun _ => ?_))
  have hl3 : ((fs.length : Int) + (more.length : Int)) = ((fs.length + more.length : Nat) : Int) := by omega
  by_cases hbig : 20000 < fs.length + more.length
  · have hbig' : (20000 : Int) < (fs.length : Int) + (more.length : Int) := by omega
    repeat' (first | (simp (disch := first | omega | (decide +kernel)) only [↓RD, RU, ↓putF_get, ↓putF_none, ↓evF_t, ↓evF_c, new_get, getD_zero, getD_succ, pop, aop, wop, resL, resV, tupleV, akV, isVal, isCell, Value.cells, ↓reduceIte, Nat.reduceEqDiff, Nat.reduceAdd, Int.reduceOfNat, reduceCtorEq, ρ5, ρ6, ρ7, ρ8, ρ17, ρ21, ρ22, ρ23, Kd.isRo, ρ25, ρ26, ha, hb, hbig']) | (with_reducible first | refine condK_dec (fun _ => ?_) fun _ => ?_ | refine grd_dec (fun _ => ?_) fun _ => ?_ | refine egrd_dec (fun _ => ?_) fun _ => ?_))
  have hbig' : ¬ ((20000 : Int) < (fs.length : Int) + (more.length : Int)) := by omega
  repeat' (first | (simp (disch := first | omega | (decide +kernel)) only [↓r_seq, ↓seqK_n, ↓r_reg, ↓r_cond, ↓condK_f, ↓i_cons, ↓i_grd, ↓grd_ff, ↓itemK, ↓o_p, ↓o_a, ↓o_w, ↓putF_get, ↓putF_none, ↓evF_t, ↓evF_c, new_nx, set_nx, new_get, optV_some, optW_some, optA_some, ↓wpI_nil, ↓wpR_skip, getD_zero, getD_succ, b_add, b_neq, b_gtr, w_i64, pop, aop, wop, tupleV, akV, isVal, isCell, Value.cells, List.map_nil, Option.map_some, ↓reduceIte, Nat.reduceEqDiff, Nat.reduceAdd, Int.reduceOfNat, reduceCtorEq, List.getElem?_cons_zero, List.getElem?_cons_succ, List.length_cons, List.length_nil, setc_0, List.drop_succ_cons, List.append_nil, List.drop_nil, List.all_cons, List.all_nil, Bool.and_true, Kd.isRo, List.size_toArray, List.getElem?_toArray, List.toList_toArray, bldV, Nat.reduceLeDiff, Nat.le_refl, dec_f, ↓w_app, Nat.mul_one, Nat.zero_add, and_true, ha, hb, hbig', zeros, List.range_zero, List.map_nil]) | (with_reducible first | refine condK_dec (fun _ => ?_) fun _ => ?_ | refine grd_dec (fun _ => ?_) fun _ => ?_ | refine egrd_dec (fun _ => ?_) fun _ => ?_))
  obtain ⟨KB, hKB, xB, nB, oB⟩ := nbx_p K4 b1 b2 b3 b4 bq bn bc
  refine (?_ : optW (appS (srcCells ((nbx K4 b1 b2 b3 b4 bq bn bc).new _) 1 _) _ 1 1 (.slice (some ⟨(nbx K4 b1 b2 b3 b4 bq bn bc).nx, 0, none⟩) 0 0) ((nbx K4 b1 b2 b3 b4 bq bn bc).new _)) _)
  rw [hKB]
  have x2B : HExt K2 KB := ((x3.trans xA).trans x4).trans xB
  rw [src_byt (SlAt.good (CInt.good _) (x2B.new _) s3), appS_some]
  refine optW_app (A := KB) (f := ints .u8) (xs := []) (ys := u8i fs) (ints_ok .u8) (grw_byt (HExt.refl KB)) ((HExt.refl KB).new _) (by rw [u8i_len]; simp only [List.length_nil]; omega) (by rw [u8i_len]; simp only [List.length_nil]; omega) rfl u8i_len.symm fun v5 K5 g5 x5 _ _ => ?_
  rw [List.nil_append] at g5
  repeat' (first | (simp (disch := first | omega | (decide +kernel)) only [↓i_cons, ↓itemK, ↓o_p, ↓o_w, ↓putF_get, ↓evF_t, optV_some, getD_zero, getD_succ, pop, ↓reduceIte, Nat.reduceEqDiff, ↓w_app]) | (with_reducible first | refine condK_dec (fun _ => ?_) fun _ => ?_ | refine grd_dec (fun _ => ?_) fun _ => ?_ | refine egrd_dec (fun _ => ?_) fun _ => ?_))
  rw [src_byt (SlAt.good (CInt.good _) (((hK.trans x2).trans x2B).trans x5) h2), appS_some]
  refine optW_app (A := KB) (f := ints .u8) (ys := u8i more) (ints_ok .u8) g5 x5 (by rw [u8i_len, u8i_len]; omega) (by rw [u8i_len, u8i_len]; omega) rfl u8i_len.symm fun v6 K6 g6 x6 _ _ => ?_
  rw [← u8i_app] at g6
  obtain ⟨jn, hjn⟩ : ∃ jn, jn = fs ++ more := ⟨_, rfl⟩
  have hjl : jn.length = fs.length + more.length := by rw [hjn]; simp
  rw [← hjn] at g6
  obtain ⟨q6, c6, rfl, s6⟩ := grw_bsl g6 (by omega)
  repeat' (first | (simp (disch := first | omega | (decide +kernel)) only [↓RD, ↓putF_get, ↓evF_t, ρ0, ρ1, ↓reduceIte]) | (with_reducible first | refine condK_dec (fun _ => ?_) fun _ => ?_ | refine grd_dec (fun _ => ?_) fun _ => ?_ | refine egrd_dec (fun _ => ?_) fun _ => ?_))
  refine (source_wp s6).mono ?_
  rintro v K7 ⟨vs, rfl, x7, osc, rfl, hsc⟩
  obtain ⟨d1, d2, d3, d4, dq, dn, dc, rfl⟩ := nd_cells hsc
  obtain ⟨tc, la, lb, htc, htk, hla, hlb⟩ := source_cuts (src := src) (more := more) (by rw [← hfs]; exact sourceT_0 ha) (sourceT_0 hb) (by omega)
  rw [← hfs, ← hjn] at htc
  have hja : sourceT fs = ((sourceT fs).1, 0, 0) := sourceT_0 ha
  obtain ⟨ta, hta⟩ : ∃ ta, ta = (sourceT fs).1 := ⟨_, rfl⟩
  obtain ⟨tb, htb⟩ : ∃ tb, tb = (sourceT more).1 := ⟨_, rfl⟩
  rw [← hta] at hsa hla
  rw [← htb] at hsb hlb
  rw [htc] at hsc ⊢
  have hn3 := x3.nx
  have hn4 := x4.nx
  have hn5 := x5.nx
  have hn6 := x6.nx
  have hn7 := x7.nx
  have hc0 : ((0 : Int) != 0) = false := rfl
  have xB7 : HExt KB K7 := x6.trans x7
  have oA7 := (((x4.trans xB).trans xB7).ob K3.nx (by omega)).trans oA
  have oB7 := (xB7.ob K4.nx (by omega)).trans oB
  have hneA : K3.nx ≠ K7.nx := by omega
  have hneB : K4.nx ≠ K7.nx := by omega
  obtain ⟨ea, ma, ra⟩ := nd_row hsa
  obtain ⟨eb, mb, rb⟩ := nd_row hsb
  obtain ⟨ec, mc, rc⟩ := nd_row hsc
  rw [maxLen_eq] at ma mb mc
  have hkl : dn = an + bn := by rw [ec, ea, eb, htk, List.length_append, ← hla.len, ← hlb.len]
  have hkl' : ((an : Int) + (bn : Int)) = ((dn : Nat) : Int) := by omega
  repeat' (first | (simp (disch := first | omega | (decide +kernel)) only [↓RD, RU, ↓putF_get, ↓putF_none, ↓evF_t, ↓evF_c, new_get, set_get, pop, lop, aop, wop, tupleV, akV, isVal, isCell, Value.cells, ↓reduceIte, Nat.reduceEqDiff, Nat.reduceAdd, reduceCtorEq, ρ5, ρ6, ρ7, ρ8, ρ17, ρ21, ρ22, ρ23, Kd.isRo, ρ25, ρ26, oA7, oB7, hneA, hneB, hkl']) | (with_reducible first | refine condK_dec (fun _ => ?_) fun _ => ?_ | refine grd_dec (fun _ => ?_) fun _ => ?_ | refine egrd_dec (fun _ => ?_) fun _ => ?_))
  obtain ⟨KD, hKD, xD, nD, oD⟩ := nbx_p K7 d1 d2 d3 d4 dq dn dc
  refine (?_ : WpR TL _ _ (nbx K7 d1 d2 d3 d4 dq dn dc) _)
  rw [hKD]
  have oAD := (xD.ob K3.nx (by omega)).trans oA7
  have oBD := (xD.ob K4.nx (by omega)).trans oB7
  have saD := hsa.mv (K' := KD) (A' := fun b => b < K3.nx) fun b hb => ⟨hb.2, ((((xA.trans x4).trans xB).trans xB7).trans xD).ob b hb.2⟩
  have sbD := hsb.mv (K' := KD) (A' := fun b => b < K4.nx) fun b hb => ⟨hb.2, ((xB.trans xB7).trans xD).ob b hb.2⟩
  have scD := hsc.mv (K' := KD) (A' := fun b => b < K7.nx) fun b hb => ⟨hb.2, xD.ob b hb.2⟩
  obtain ⟨_, _, raD⟩ := nd_row saD
  obtain ⟨_, _, rbD⟩ := nd_row sbD
  obtain ⟨_, _, rcD⟩ := nd_row scD
  refine loop_w (fun n fr K1 => CtJ KD an n (fr 15) K1) (n := an) ⟨0, rfl, Nat.zero_le _, by (repeat' (first | (simp (disch := first | omega | (decide +kernel)) only [↓putF_get, ↓reduceIte]) | (with_reducible first | refine condK_dec (fun _ => ?_) fun _ => ?_ | refine grd_dec (fun _ => ?_) fun _ => ?_ | refine egrd_dec (fun _ => ?_) fun _ => ?_)); all_goals rfl), HExt.refl _⟩ ?_
  rintro n fr K8 ⟨i, rfl, hi, f15, x8⟩ hag
  have hn8 := x8.nx
  have oA8 := (x8.ob K3.nx (by omega)).trans oAD
  have oB8 := (x8.ob K4.nx (by omega)).trans oBD
  have oD8 := (x8.ob K7.nx (by omega)).trans oD
  by_cases hil : i < an
  · obtain ⟨ua, hua⟩ : ∃ ua, ta.kids[i]? = some ua := ⟨_, List.getElem?_eq_getElem (by omega)⟩
    obtain ⟨uc, huc, hnr⟩ := hla.get hua
    have huc' : tc.kids[i]? = some uc := by
      rw [htk, List.getElem?_append_left (by rw [← hla.len]; omega)]; exact huc
    obtain ⟨r1, cs1, e1, k1, ha1, ha2, ha3, ha4, ha5, ha6⟩ := raD i ua hua
    obtain ⟨r2, cs2, e2, k2, hc1, hc2, hc3, hc4, hc5, hc6⟩ := rcD i uc huc'
    have ha6' := ha6.mv (K' := K8) (A' := fun b => b < K3.nx) fun b hb => ⟨hb, x8.ob b (by omega)⟩
    have hc6' := hc6.mv (K' := K8) (A' := fun b => b < K7.nx) fun b hb => ⟨hb, x8.ob b (by omega)⟩
    have hsm := nsame_wp true (fun b hb => by omega) (fun b hb => by omega) hc6' ha6'
    rw [hnr.symm.same] at hsm
    obtain ⟨w1, w2, w3, w4, w5, w6, w7, hw⟩ := nd_cells ha6
    obtain ⟨y1, y2, y3, y4, y5, y6, y7, hy⟩ := nd_cells hc6
    rw [hw, hy] at hsm
    have o1 := (x8.ob r1 (by omega)).trans ha3
    have o2 := (x8.ob r2 (by omega)).trans hc3
    repeat' (first | (simp (disch := first | omega | (decide +kernel)) only [↓RD, RU, ↓putF_get, ↓evF_t, ↓evF_c, pop, lop, ρ0, ρ1, ↓reduceIte, Nat.reduceEqDiff, ρ5, ρ6, ρ29, hag, f15, oA8, oD8, ha1, hc1, o1, o2, ha4, hc4, hw, hy]) | (with_reducible first | refine condK_dec (fun _ => ?_) fun _ => ?_ | refine grd_dec (fun _ => ?_) fun _ => ?_ | refine egrd_dec (fun _ => ?_) fun _ => ?_))
    refine hsm.mono ?_
    rintro v K9 ⟨x9, rfl⟩
    repeat' (first | (simp (disch := first | omega | (decide +kernel)) only [↓RD, RU, ↓putF_get, ↓evF_t, ↓evF_c, u_not, pop, ρ2, ↓reduceIte, Nat.reduceEqDiff, f15]) | (with_reducible first | refine condK_dec (fun _ => ?_) fun _ => ?_ | refine grd_dec (fun _ => ?_) fun _ => ?_ | refine egrd_dec (fun _ => ?_) fun _ => ?_))
    exact ⟨an - (i + 1), by omega, i + 1, rfl, hil, rfl, x8.trans x9⟩
  have hil : i = an := by omega
  subst hil
  repeat' (first | (simp (disch := first | omega | (decide +kernel)) only [↓RD, RU, ↓putF_get, ↓evF_t, ↓evF_c, pop, lop, ↓reduceIte, Nat.reduceEqDiff, ρ5, ρ6, hag, f15, oA8]) | (with_reducible first | refine condK_dec (fun _ => ?_) fun _ => ?_ | refine grd_dec (fun _ => ?_) fun _ => ?_ | refine egrd_dec (fun _ => ?_) fun _ => ?_))
  refine loop_w (fun n fr K1 => CtJ KD bn n (fr 16) K1) (n := bn) ⟨0, rfl, Nat.zero_le _, by (repeat' (first | (simp (disch := first | omega | (decide +kernel)) only [↓putF_get, ↓reduceIte]) | (with_reducible first | refine condK_dec (fun _ => ?_) fun _ => ?_ | refine grd_dec (fun _ => ?_) fun _ => ?_ | refine egrd_dec (fun _ => ?_) fun _ => ?_)); all_goals rfl), x8⟩ ?_
  rintro n fr2 K9 ⟨j, rfl, hj, f16, x9⟩ hag2
  have hn9 := x9.nx
  have oA9 := (x9.ob K3.nx (by omega)).trans oAD
  have oB9 := (x9.ob K4.nx (by omega)).trans oBD
  have oD9 := (x9.ob K7.nx (by omega)).trans oD
  by_cases hjl : j < bn
  · obtain ⟨ub, hub⟩ : ∃ ub, tb.kids[j]? = some ub := ⟨_, List.getElem?_eq_getElem (by omega)⟩
    obtain ⟨uc, huc, hnr⟩ := hlb.get hub
    have huc' : tc.kids[i + j]? = some uc := by
      rw [htk, List.getElem?_append_right (by rw [← hla.len]; omega), ← hla.len, ← ea, Nat.add_sub_cancel_left]; exact huc
    obtain ⟨r1, cs1, e1, k1, ha1, ha2, ha3, ha4, ha5, ha6⟩ := rbD j ub hub
    obtain ⟨r2, cs2, e2, k2, hc1, hc2, hc3, hc4, hc5, hc6⟩ := rcD (i + j) uc huc'
    have ha6' := ha6.mv (K' := K9) (A' := fun b => b < K4.nx) fun b hb => ⟨hb, x9.ob b (by omega)⟩
    have hc6' := hc6.mv (K' := K9) (A' := fun b => b < K7.nx) fun b hb => ⟨hb, x9.ob b (by omega)⟩
    have hsm := nsame_wp false (fun b hb => by omega) (fun b hb => by omega) hc6' ha6'
    rw [hnr.symm.same] at hsm
    obtain ⟨w1, w2, w3, w4, w5, w6, w7, hw⟩ := nd_cells ha6
    obtain ⟨y1, y2, y3, y4, y5, y6, y7, hy⟩ := nd_cells hc6
    rw [hw, hy] at hsm
    have o1 := (x9.ob r1 (by omega)).trans ha3
    have o2 := (x9.ob r2 (by omega)).trans hc3
    have hij : ((i : Int) + (j : Int)) = ((i + j : Nat) : Int) := by omega
    repeat' (first | (simp (disch := first | omega | (decide +kernel)) only [↓RD, RU, ↓putF_get, ↓evF_t, ↓evF_c, pop, lop, ρ0, ρ1, ↓reduceIte, Nat.reduceEqDiff, ρ5, ρ6, ρ29, hag2, hag, f16, oA9, oB9, oD9, ha1, hc1, o1, o2, ha4, hc4, hw, hy, hij]) | (with_reducible first | refine condK_dec (fun _ => ?_) fun _ => ?_ | refine grd_dec (fun _ => ?_) fun _ => ?_ | refine egrd_dec (fun _ => ?_) fun _ => ?_))
    refine hsm.mono ?_
    rintro v K10 ⟨x10, rfl⟩
    repeat' (first | (simp (disch := first | omega | (decide +kernel)) only [↓RD, RU, ↓putF_get, ↓evF_t, ↓evF_c, u_not, pop, ρ2, ↓reduceIte, Nat.reduceEqDiff, f16]) | (with_reducible first | refine condK_dec (fun _ => ?_) fun _ => ?_ | refine grd_dec (fun _ => ?_) fun _ => ?_ | refine egrd_dec (fun _ => ?_) fun _ => ?_))
    exact ⟨bn - (j + 1), by omega, j + 1, rfl, hjl, rfl, x9.trans x10⟩
  have hjl : j = bn := by omega
  subst hjl
  repeat' (first | (simp (disch := first | omega | (decide +kernel)) only [↓RD, RU, ↓putF_get, ↓evF_t, ↓evF_c, pop, lop, resL, resV, tupleV, ↓reduceIte, Nat.reduceEqDiff, ρ5, ρ6, hag2, hag, f16, oB9]) | (with_reducible first | refine condK_dec (fun _ => ?_) fun _ => ?_ | refine grd_dec (fun _ => ?_) fun _ => ?_ | refine egrd_dec (fun _ => ?_) fun _ => ?_))
theorem cuts_law' {H : CH} {q1 q2 : Option Addr} {c1 c2 : Nat} {xs ys : List Int} (h1 : SlAt 1 (CInt .u8) H q1 c1 xs) (h2 : SlAt 1 (CInt .u8) H q2 c2 ys) (hl1 : xs.length * 1 ≤ reachBytes) (hl2 : ys.length * 1 ≤ reachBytes) : WpF TL 5 [.slice q1 xs.length c1, .slice q2 ys.length c2] H fun v _ => v = .bool true := by
  obtain ⟨src, rfl⟩ := u8_of h1
  obtain ⟨more, rfl⟩ := u8_of h2
  have e : reachBytes = 140737488351232 := rfl
  rw [u8i_len] at hl1 hl2 ⊢
  rw [u8i_len]
  exact cuts_law h1 h2 (by omega) (by omega)
end Can
end Go.Proofs.Ytnkfdkfmdeibfaa
