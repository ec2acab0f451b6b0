/- Parse, the program: parse.Parse answers parseT. Parse, its laws: the sources of the example, where Lex is told. Canonical runs: a table with functions of which it is told what they do. Over any program. Parse, its laws: the table in which it is told what Parse does; Same of trees. Parse, its laws: Source; the example holds. Parse, its laws: the example holds. Parse, its laws: the answers for tokens with other lines. No program in sight, but for Same. Parse, its laws: the first token that can't stand there. No program in sight. Parse, its laws: the tokens of two sources, one behind the other. No program in sight. Parse, its laws: tokens that grow; Same of two trees. Lex, plain: two sources, one behind the other. -/
import Derived.Test.YtnkfdkfmdeibfaaZn
import Derived.Test.YtnkfdkfmdeibfaaZj
import Derived.Test.YtnkfdkfmdeibfaaZe
import Derived.Test.YtnkfdkfmdeibfaaZa
import Derived.Test.YtnkfdkfmdeibfaaZb
section
namespace Go.Proofs.Ytnkfdkfmdeibfaa
namespace Can
open Go Go.RowKit
set_option linter.unusedSimpArgs false
set_option linter.unusedVariables false
set_option maxRecDepth 4000
theorem gd_eval {H K : CH} {l : Int} (o2 : K.ob H.nx = .cells [.int .i64 0, .int .i64 0, .string ⟨⟨[]⟩⟩, .int .i64 0, .slice none 0 0] 28 .ex) (o3 : K.ob (H.nx + 1) = .cells [.int .i64 0] 3 .ex) (o4 : K.ob (H.nx + 2) = .cells [.int .i64 0] 29 .ex) (hn : H.nx + 4 ≤ K.nx) :
    gdG [pP H.nx, pP (H.nx + 1), pP (H.nx + 2)] (wrV l) K ((((gdH K l).set H.nx (.cells [.int .i64 0, .int .i64 0, .string ⟨⟨[]⟩⟩, .int .i64 0, .slice none 0 0] 28 .ex)).set (H.nx + 1) (.cells [.int .i64 l] 3 .ex)).set (H.nx + 2) (.cells [.int .i64 22] 29 .ex)) := by
  refine ⟨rfl, l, rfl, ?_⟩
  unfold gdH
  conv in gdD => reduce
  have hn0 : H.nx ≠ K.nx := by omega
  have hn1 : H.nx + 1 ≠ K.nx := by omega
  have hn2 : H.nx + 2 ≠ K.nx := by omega
  repeat' (first | (simp (disch := first | omega | (decide +kernel)) only [↓RD, RU, accW_t, accW_f, isW, ↓putF_get, ↓putF_none, ↓evF_t, ↓evF_c, new_get, set_get, getD_zero, getD_succ, pop, lop, wop, isVal, isCell, Value.cells, ρ1, ρ4, ↓reduceIte, Nat.reduceEqDiff, Nat.reduceAdd, Int.reduceOfNat, reduceCtorEq, ρ5, ρ6, ρ7, ρ8, ρ17, ρ19, ρ20, ρ21, ρ22, ρ23, Kd.isRo, ρ25, ρ26, bldV, ρ28, o2, o3, o4, hn0, hn1, hn2]) | (with_reducible first | refine condK_dec (fun _ => ?_) fun _ => ?_ | refine grd_dec (fun _ => ?_) fun _ => ?_ | refine egrd_dec (fun _ => ?_) fun _ => ?_))
theorem fn_ok {P : Program} {f : Nat} (h : (resFunc P (fun N ops => resD P N ops) f).isSome = true) : FuncOk P f (rF P f) := by
  refine resFunc_ok (fun N ops d h => resD_ok h) (rd := fun N ops => resD P N ops) ?_
  unfold rF
  cases hr : resFunc P (fun N ops => resD P N ops) f with
  | none => rw [hr] at h; cases h
  | some r => rfl
theorem prK_2 {H : CH} {sl : Sl} : (prK H sl).ob H.nx = .cells [.int .i64 0, .int .i64 0, .string ⟨⟨[]⟩⟩, .int .i64 0, .slice none 0 0] 28 .ex := by
  unfold prK
  rw [new_ne (by simp only [new_nx]; omega), new_ne (by simp only [new_nx]; omega), new_ne (by simp only [new_nx]; omega)]
  exact new_get.trans (if_pos rfl)
theorem prK_3 {H : CH} {sl : Sl} : (prK H sl).ob (H.nx + 1) = .cells [.int .i64 0] 3 .ex := by
  unfold prK
  rw [new_ne (by simp only [new_nx]; omega), new_ne (by simp only [new_nx]; omega)]
  exact new_get.trans (if_pos rfl)
theorem prK_4 {H : CH} {sl : Sl} : (prK H sl).ob (H.nx + 2) = .cells [.int .i64 0] 29 .ex := by
  unfold prK
  rw [new_ne (by simp only [new_nx]; omega)]
  exact new_get.trans (if_pos rfl)
def PrQ2 (H : CH) (ts : List PT) (v : Value) (H' : CH) : Prop := ∃ vs, v = tupleV vs ∧ PrO H (parseT ts).1 (parseT ts).2.1 (parseT ts).2.2 vs H' ∧ TyV vs H'
def PrQ (H : CH) (ts : List PT) (v : Value) (H' : CH) : Prop := ∃ vs, v = tupleV vs ∧ PrO H (parseT ts).1 (parseT ts).2.1 (parseT ts).2.2 vs H'
theorem top_gd {ts : List PT} : Gd (fun e => gr ts (ts.length * 64 + 100) (.top []) 0 = some (.error e)) (fun l j => gr ts (ts.length * 64 + 100) (.top []) 0 = some (.ok (l, j)) ∧ htL l + 1 ≤ 64 * ts.length + 2) (gr ts (ts.length * 64 + 100) (.top []) 0) := by
  have h1 := gr_gd (ts := ts) (ts.length * 64 + 100) (.top []) 0 trivial (Nat.zero_le _) (by simp only [NT.rank]; omega)
  have h2 := gr_ht (ts := ts) (ts.length * 64 + 100) (.top []) 0 trivial (Nat.zero_le _) (by simp only [NT.rank]; omega)
  match h : gr ts (ts.length * 64 + 100) (.top []) 0, h1, h2 with
  | some (.error e), _, _ => exact rfl
  | some (.ok (l, j)), h1, h2 =>
    refine ⟨rfl, ?_⟩
    have h3 : szL l + 64 * 0 + 0 ≤ 0 + 64 * j + 0 := h2
    have h4 := h1.2.1
    have h5 := ht_szL l
    omega
theorem cS_inv {K : CH} {E : TE} {v w : Value} (h : CVR K E (cS v) w) : w = v := by
  cases h with
  | s h => cases h; rfl
theorem own_row {K : CH} {E : TE} {A : Nat → Prop} {t sz : Nat} {e : TypeId} {gs : List (List SV)} {w : Value} (h : CVR K E (.own t e sz gs) w) (h1 : ∀ b, Frz K E b → A b) (h2 : ∀ b, E.σ t = some b → A b) : SVR K A (.row sz gs) w := by
  cases h with
  | own0 => exact .row0
  | own hne hb ho hk hg hs => exact .row hne (h2 _ hb) ho hk hg (hs.mv fun b hb => ⟨h1 b hb, rfl⟩)
theorem parse_call {H : CH} {sl : Sl} {ts : List PT} (h : SlAt 3 CTk H sl.q sl.c ts) (hn : sl.n = ts.length) (hlen : ts.length ≤ 4398046510976) : ∃ v H', PrQ2 H ts v H' ∧ ∀ B, CallC Try.prog B 8 [.slice sl.q sl.n sl.c] H v H' := by
  refine guard_calls (T := (tblG Try.prog LG GG)) (X := pX) (G := gdG) (g := 14) (d := 10) (x1 := 2) (x2 := 3) (x3 := 4) (fun B => tg_ok) (fun B f args H v H' => fail_ok) (fn_ok (by kernel_rfl)) pr_body (by rfl) (by kernel_rfl) (Nat.lt_of_lt_of_eq (by decide : 10 < 37) (by kernel_rfl : 37 = (rF Try.prog 8).ntmps)) gd_ret (fun B => gd_pan) ?_
  refine (pr_r0 (sl := sl) rfl).mono fun x fr1 H1 ⟨hx, hw⟩ => ⟨hx, hw.mono fun x fr2 H2 ⟨hx, c2, c3, c4, c5, e⟩ => ⟨hx, ?_⟩⟩
  subst e
  have C := pctx (prZ_ok h hn) hlen
  have hc : ∀ t, t ≠ 10 → putF fr2 (some 10) undef t = fr2 t := fun t ht => if_neg ht
  have t0 := pr_start (cfr := putF fr2 (some 10) undef) h ((hc 2 (by decide)).trans c2) ((hc 3 (by decide)).trans c3) ((hc 4 (by decide)).trans c4) ((hc 5 (by decide)).trans c5)
  let Rp : Value → Prop := fun v => ∃ e, gr ts (ts.length * 64 + 100) (.top []) 0 = some (.error e) ∧ v = wrV (nowT ts e).line
  have hpan : ∀ v K3, PX (prK H sl) (some (H.nx + 3)) Rp v K3 → ∃ H4, gdG [fr2 2, fr2 3, fr2 4] v K3 H4 ∧ ∃ vs, resL (mskF (.seq prP.2.2.1 (.seq prP.2.2.2.1 prP.2.2.2.2)) (putF fr2 (some 10) undef)) H4 (rF Try.prog 8).res = some vs ∧ PrQ2 H ts (tupleV vs) H4 := by
    rintro v K3 ⟨g1, g2, e, hg, rfl⟩
    rw [prK_nx] at g1 g2
    have o2 := (g2 H.nx (by omega) (fun e => by injection e; omega)).trans prK_2
    have o3 := (g2 (H.nx + 1) (by omega) (fun e => by injection e; omega)).trans prK_3
    have o4 := (g2 (H.nx + 2) (by omega) (fun e => by injection e; omega)).trans prK_4
    rw [c2, c3, c4]
    refine ⟨_, gd_eval o2 o3 o4 g1, ?_⟩
    have hH3 : HExt H K3 := ⟨by omega, fun b hb => (g2 b (by omega) (fun e => by injection e; omega)).trans (prK_old hb)⟩
    have hm : ∀ t, t ≠ 10 → (wrR (.seq prP.2.2.1 (.seq prP.2.2.2.1 prP.2.2.2.2))).elem t = false → mskF (.seq prP.2.2.1 (.seq prP.2.2.2.1 prP.2.2.2.2)) (putF fr2 (some 10) undef) t = fr2 t := fun t ht hw => by
      unfold mskF
      rw [hw]
      exact hc t ht
    have m2 := (hm 2 (by decide) (by kernel_rfl)).trans c2
    have m3 := (hm 3 (by decide) (by kernel_rfl)).trans c3
    have m4 := (hm 4 (by decide) (by kernel_rfl)).trans c4
    rw [pr_res]
    unfold gdH
    have hn0 : H.nx ≠ K3.nx := by omega
    have hn1 : H.nx + 1 ≠ K3.nx := by omega
    have hn2 : H.nx + 2 ≠ K3.nx := by omega
    repeat' (first | (simp (disch := first | omega | (decide +kernel)) only [RU, ↓evF_t, set_get, lop, resL, resV, tupleV, ↓reduceIte, Nat.reduceEqDiff, Nat.reduceAdd, ρ5, ρ7, ρ8, ρ15, ρ18, m2, m3, m4]) | (with_reducible first | refine condK_dec (fun _ => ?_) fun _ => ?_ | refine grd_dec (fun _ => ?_) fun _ => ?_ | refine egrd_dec (fun _ => ?_) fun _ => ?_))
    refine ⟨_, rfl, [_, _, _], rfl, ?_⟩
    have ht : parseT ts = (zNd, (nowT ts e).line, 22) := by unfold parseT; rw [hg]
    rw [ht]
    refine ⟨⟨((((hH3.new _).set (by omega) _).set (Nat.le_refl _) _).set (by omega) _).set (by omega) _, _, rfl, .cons (.sc rfl) (.cons (.sc rfl) (.cons (.sc rfl) (.cons (.sc rfl) (.cons .row0 .nil))))⟩, ?_⟩
    intro a0 a1 a2 a3 b n c r e
    simp at e
  refine wxR_seq ((twR_sound dt_ok t0 (pr_t3 (R := Rp) C)).mono ?_ hpan)
  rintro x cfr3 K3 ⟨fr3, st3, E3, t1, s1, rfl, ⟨nt, u, rfl⟩, g2, g3, g4, g5, g6⟩
  have t1' : TR (prZ H sl) (prK H sl) (some (H.nx + 3)) K3 ⟨nt, [(u, 43, (oR sl 0).2.2), (u, 28, nC 1 (nowT ts 0).line [] 0 (.s (.row 5 [])))]⟩ (prG H) cfr3 E3 := by
    refine { t1 with frm := fun t => ?_ }
    match t with
    | 0 => exact .bad
    | 1 => exact .bad
    | 2 => have := t1.frm 2; rw [g2] at this; exact this
    | 3 => have := t1.frm 3; rw [g3] at this; exact this
    | 4 => have := t1.frm 4; rw [g4] at this; exact this
    | 5 => have := t1.frm 5; rw [g5] at this; exact this
    | 6 => have := t1.frm 6; rw [g6] at this; exact this
    | n + 7 => exact .bad
  show WxR (tblG Try.prog LG GG) pX (.seq prP.2.2.2.1 prP.2.2.2.2) cfr3 K3 _ _
  refine wxR_seq ((twR_sound dt_ok t1' (pr_tL C (fun m _ => pall C m) top_gd fun e he => ⟨e, he, rfl⟩)).mono ?_ hpan)
  rintro x cfr4 K4 ⟨fr4, st4, E4, t2, s2, rfl, ⟨l, j, nt2, u1, u2, c, ⟨hgr, hht⟩, hacc, rfl⟩, g2, g3, g4, g6⟩
  have hp : ∀ t l, fr4 t = rS (pP l) → cfr4 t = pP l := fun t l e => by
    have := t2.frm t
    rw [e] at this
    exact raw_rel this rfl
  have hhid : E4.hid = fun b => b < H.nx + 4 ∧ b ≠ H.nx + 3 := s2.hid.trans s1.hid
  have hr0 : E4.ρ 0 = some (H.nx + 3) := s2.rho _ _ (s1.rho _ _ rfl)
  obtain ⟨b, os, hb1, hb2, hb3⟩ := t2.obs 1 _ _ _ rfl
  have h6 : cfr4 6 = pP b := by
    have := t2.frm 6
    rw [g6] at this
    obtain ⟨b', q1, q2⟩ := this.ptr_inv
    rw [hb1] at q1; cases q1
    exact q2
  obtain ⟨hbn, hbk, _⟩ := t2.rho 1 b hb1
  have hne3 : b ≠ H.nx + 3 := fun e => by
    have := t2.rinj 0 1 b (by rw [hr0, e]) hb1
    cases this
  have hb4 : H.nx + 4 ≤ b := by
    rcases hbk with q | q
    · rw [prK_nx] at q; exact q
    · injection q with q; exact absurd q.symm hne3
  have hnx := t2.nx
  rw [prK_nx] at hnx
  have hfz : ∀ b, Frz K4 E4 b → H.nx + 4 ≤ b ∧ b < K4.nx := fun b ⟨f1, f2, f3, f4⟩ => by
    rw [hhid] at f2
    have : b ≠ H.nx + 3 := fun e => f4 0 (by rw [hr0, e])
    exact ⟨by omega, f1⟩
  have hkeep : ∀ b, b < H.nx + 3 → K4.ob b = (prK H sl).ob b := fun b hb => t2.keep b (by rw [prK_nx]; omega) (fun e => by injection e; omega)
  have hw : ∀ w, CVR K4 E4 c w → SVR K4 (fun b => H.nx + 4 ≤ b ∧ b < K4.nx) (.row 5 (ndsS l)) w := fun w hc => by
    rcases hacc with ⟨rfl, rfl⟩ | ⟨t, rfl⟩
    · cases hc with
      | s h => exact h.mv fun b hb => ⟨hfz b hb, rfl⟩
    · exact own_row hc hfz fun b hb => ⟨by have := (t2.sig t b hb).1; rw [prK_nx] at this; exact this, (t2.sig t b hb).2.1⟩
  have hty : ∀ w, CVR K4 E4 c w → ∀ b n c', w = .slice (some ⟨b, 0, none⟩) n c' → b < K4.nx ∧ H.nx + 4 ≤ b ∧ ∃ cs kd, K4.ob b = .cells cs 28 kd := fun w hc b n c' ew => by
    subst ew
    rcases hacc with ⟨rfl, rfl⟩ | ⟨t, rfl⟩
    · cases hc with
      | s h => cases h with | row hne _ _ _ _ _ => exact absurd rfl hne.1
    · generalize ndsS l = gs at hc
      cases hc with
      | own hne hb ho hk hg hs => exact ⟨(t2.sig t b hb).2.1, by have := (t2.sig t b hb).1; rw [prK_nx] at this; exact this, _, _, ho⟩
  cases hb3 with | cons a1 hb3 =>
  cases hb3 with | cons a2 hb3 =>
  cases hb3 with | cons a3 hb3 =>
  cases hb3 with | cons a4 hb3 =>
  cases hb3 with | cons a5 hb3 =>
  cases hb3
  have e1 := cS_inv a1
  have e2 := cS_inv a2
  have e3 := cS_inv a3
  have e4 := cS_inv a4
  subst e1 e2 e3 e4
  refine .inl ((pr_rest (H := H) (hp 2 _ g2) (hp 3 _ g3) (hp 4 _ g4) h6 ((hkeep _ (by omega)).trans prK_2) ((hkeep _ (by omega)).trans prK_3) ((hkeep _ (by omega)).trans prK_4) hb2 hnx hbn hb4 (hw _ a5) (by omega) (fun b hb => (hkeep b (by omega)).trans (prK_old hb)) (hty _ a5)).mono fun x fr' K' ⟨q1, vs, q2, q3, q4⟩ => ⟨.inr q1, vs, ?_, vs, rfl, ?_, q4⟩)
  · rw [pr_res]; exact q2
  · have ht : parseT ts = if 60 < htL l + 1 then (zNd, 0, 11) else (nd 1 (hdLine (nowT ts 0).line l) l, 0, 0) := by unfold parseT; rw [hgr]
    rw [ht]
    by_cases h60 : 60 < htL l + 1
    · rw [if_pos h60, if_pos h60] at q3
      rw [if_pos h60]
      exact q3
    · rw [if_neg h60, if_neg h60] at q3
      rw [if_neg h60]
      exact q3
end Can
end Go.Proofs.Ytnkfdkfmdeibfaa
end
section
namespace Go.Proofs.Ytnkfdkfmdeibfaa
namespace Can
open Go Go.RowKit
set_option linter.unusedSimpArgs false
set_option linter.unusedVariables false
set_option maxRecDepth 4000
def bsV (l : List UInt8) : List Value := l.map fun b => .int .u8 b.toNat
def src1 : List UInt8 := [97, 32, 61, 32, 98, 44, 32, 49]
def src2 : List UInt8 := [98, 10, 49, 32, 61, 32, 97]
def toks1 : List PT := [⟨4, 1, [97]⟩, ⟨9, 1, [61]⟩, ⟨4, 1, [98]⟩, ⟨9, 1, [44]⟩, ⟨5, 1, [49]⟩, ⟨1, 1, []⟩, ⟨0, 1, []⟩]
def toks2 : List PT := [⟨4, 1, [98]⟩, ⟨1, 1, []⟩, ⟨5, 2, [49]⟩, ⟨9, 2, [61]⟩, ⟨4, 2, [97]⟩, ⟨1, 2, []⟩, ⟨0, 2, []⟩]
def ptT (t : Tok) : PT := ⟨t.kind, t.line, t.text⟩
theorem tokV_pt (t : Tok) : tokV (ptT t) = tokC t := rfl
theorem ptT_flat : ∀ ts : List Tok, (ts.map ptT).flatMap tokV = ts.flatMap tokC
  | [] => rfl
  | t :: ts => by rw [List.map_cons, List.flatMap_cons, List.flatMap_cons, ptT_flat ts, tokV_pt]
theorem grw_pt {A K : CH} {v : Value} {ts : List Tok} (h : Grw A 25 3 tokC K v ts) : Grw A 25 3 tokV K v (ts.map ptT) := by
  rcases h with ⟨rfl, rfl⟩ | ⟨b, kd, rfl, h1, h2, h3, h4⟩
  · exact .inl ⟨rfl, rfl⟩
  · exact .inr ⟨b, kd, by rw [List.length_map], h1, h2, by rw [ptT_flat]; exact h3, h4⟩
def sourceT (src : List UInt8) : Nd × Int × Int := match lexT src with
  | .ok ts => parseT (ts.map ptT)
  | .error y => (zNd, y.1, y.2)
theorem slat_bs {H : CH} {p : Nat} {src : List UInt8} {e : TypeId} {k : Kd} (hp : p < H.nx) (h : H.ob p = .cells (bsV src) e k) (hl : src.length ≤ maxLen) : SlAt 1 (CInt .u8) H (some ⟨p, 0, none⟩) src.length (u8i src) := by
  refine .inr ⟨p, 0, _, e, k, rfl, hp, by rw [u8i_len]; exact Nat.le_refl _, hl, h, by rw [u8i_len]; simp [bsV], fun i hi => ?_⟩
  rw [u8i_len] at hi
  have e1 : (bsV src).drop (0 + i * 1) = .int .u8 (src[i].toNat : Nat) :: (bsV src).drop (i + 1) := by
    rw [Nat.zero_add, Nat.mul_one, List.drop_eq_getElem_cons (by simpa [bsV] using hi)]
    simp [bsV]
  refine ⟨?_, ?_⟩
  · rw [e1]
    simp [u8i]
  · have := src[i].toNat_lt
    simp only [u8i, List.getElem_map]
    show decide _ = true
    have e2 : IntKind.u8.max = 255 := by decide
    simp [Lit.wf, e2]
    omega
end Can
end Go.Proofs.Ytnkfdkfmdeibfaa
end
section
namespace Go.Proofs.Ytnkfdkfmdeibfaa
namespace Can
open Go Go.RowKit
set_option linter.unusedSimpArgs false
set_option linter.unusedVariables false
variable {P : Program}
abbrev Spec := FuncId → List Value → CH → Value → CH → Prop
open Classical in
noncomputable def tell (P : Program) (S : Spec) (f : FuncId) (args : List Value) (H : CH) : Option (Value × CH) :=
  if h : ∃ r : Value × CH, S f args H r.1 r.2 ∧ ∀ B, CallC P B f args H r.1 r.2 then some h.choose else none
noncomputable def tblS (P : Program) (L : List FuncId) (G : FuncId → List Value → Option Value) (LS : List FuncId) (S : Spec) : Tbl :=
  ⟨resFunc P (fun N ops => resD P N ops), resLoop P (fun N ops => resD P N ops), fun f => LS.elem f || L.elem f, ⟨fun f args H => if LS.elem f then tell P S f args H else (G f args).map fun v => (v, H), fun _ _ _ => none⟩⟩
theorem tblS_ok {B : Nat} {L : List FuncId} {G : FuncId → List Value → Option Value} {LS : List FuncId} {S : Spec} (hG : ∀ f args v, G f args = some v → PureOk P f args v) : TblOk P B (tblS P L G LS S) := by
  refine ⟨(tblG_ok (B := B) (L := L) hG).fn, (tblG_ok (B := B) (L := L) hG).loop, ⟨fun f args H v H' h => ?_, fun l args H v H' h => (by cases h)⟩⟩
  have h' : (if LS.elem f then tell P S f args H else (G f args).map fun v => (v, H)) = some (v, H') := h
  split at h'
  · unfold tell at h'
    split at h'
    · rename_i hx
      have hc := hx.choose_spec.2 B
      rw [Option.some.inj h'] at hc
      exact .inl ⟨hc.1, hc.2⟩
    · cases h'
  · exact (tblG_ok (B := B) (L := L) hG).ext.1 f args H v H' h'
theorem wpF_tell {L : List FuncId} {G : FuncId → List Value → Option Value} {LS : List FuncId} {S : Spec} {f : FuncId} (hf : LS.elem f = true) {args : List Value} {H : CH} {Q : Value → CH → Prop} (h : ∃ v H', S f args H v H' ∧ ∀ B, CallC P B f args H v H') (hQ : ∀ v H', S f args H v H' → Q v H') : WpF (tblS P L G LS S) f args H Q := by
  obtain ⟨v, H', h1, h2⟩ := h
  have hx : ∃ r : Value × CH, S f args H r.1 r.2 ∧ ∀ B, CallC P B f args H r.1 r.2 := ⟨(v, H'), h1, h2⟩
  refine ⟨1, hx.choose.1, hx.choose.2, ?_, hQ _ _ hx.choose_spec.1⟩
  simp only [evFn, evH]
  have he : (tblS P L G LS S).ext f = true := by show (LS.elem f || L.elem f) = true; rw [hf]; rfl
  rw [if_pos he]
  show (if LS.elem f then tell P S f args H else (G f args).map fun v => (v, H)) = _
  rw [if_pos hf]
  unfold tell
  rw [dif_pos hx]
theorem tbS_fn {L : List FuncId} {G : FuncId → List Value → Option Value} {LS : List FuncId} {S : Spec} {f : Nat} (h : (resFunc P (fun N ops => resD P N ops) f).isSome = true) : (tblS P L G LS S).fn f = some (rF P f) := by
  unfold rF
  show resFunc P (fun N ops => resD P N ops) f = some ((resFunc P (fun N ops => resD P N ops) f).getD ⟨0, [], .skip⟩)
  cases hr : resFunc P (fun N ops => resD P N ops) f with
  | none => rw [hr] at h; cases h
  | some r => rfl
theorem wpF_rS {L : List FuncId} {G : FuncId → List Value → Option Value} {LS : List FuncId} {S : Spec} {f : Nat} (he : (LS.elem f || L.elem f) = false) (h : (resFunc P (fun N ops => resD P N ops) f).isSome = true) {args : List Value} {H : CH} {Q : Value → CH → Prop} (k : WpR (tblS P L G LS S) (rF P f).body (fun t => args.getD t undef) H (FunK (rF P f).res Q)) : WpF (tblS P L G LS S) f args H Q :=
  wpF_in he (tbS_fn h) k
theorem tell_wp {T : Tbl} (hT : ∀ B, TblOk P B T) {f : FuncId} {args : List Value} {H : CH} {Q : Value → CH → Prop} (hc : callable P f = true) (h : WpF T f args H Q) : ∃ v H', Q v H' ∧ ∀ B, CallC P B f args H v H' := by
  obtain ⟨n, v, H', h1, h2⟩ := h
  exact ⟨v, H', h2, fun B => ⟨hc, fun β w args' hS ha => callsIn_wide.2 (calls_of_ev (hT B) h1 hS ha hc)⟩⟩
end Can
end Go.Proofs.Ytnkfdkfmdeibfaa
end
section
namespace Go.Proofs.Ytnkfdkfmdeibfaa
namespace Can
open Go Go.RowKit
set_option linter.unusedSimpArgs false
set_option linter.unusedVariables false
set_option maxRecDepth 4000
mutual
/-- The same trees (lines too). -/
def sameN (ln : Bool) : Nd → Nd → Bool
  | .mk k l x o ks, .mk k' l' x' o' ks' => decide (k = k') && decide (x = x') && decide (o = o') && decide (ks.length = ks'.length) && (!ln || decide (l = l')) && sameL ln ks ks'
def sameL (ln : Bool) : List Nd → List Nd → Bool
  | n :: ks, n' :: ks' => sameN ln n n' && sameL ln ks ks'
  | _, _ => true
end
def LexF (args : List Value) (H : CH) (v : Value) (H' : CH) : Prop := ∀ q c src, args = [.slice q src.length c] → SlAt 1 (CInt .u8) H q c (u8i src) → HExt H H' ∧ LexOut H H' v (lexT src)
def SP : Spec := fun f args H v H' => (f = 8 → ∀ (sl : Sl) (ts : List PT), args = [.slice sl.q sl.n sl.c] → SlAt 3 CTk H sl.q sl.c ts → sl.n = ts.length → ts.length ≤ 4398046510976 → PrQ2 H ts v H') ∧ (f = 19 → LexF args H v H')
noncomputable abbrev TL : Tbl := tblS Try.prog LG GG [8, 19] SP
theorem tl_ok {B : Nat} : TblOk Try.prog B TL := tblS_ok GG_ok
theorem tok_inj {a b : PT} (h : tokV a = tokV b) : a = b := by
  cases a; cases b
  simp only [tokV, List.cons.injEq, Value.int.injEq, Value.string.injEq, true_and, and_true] at h
  obtain ⟨rfl, rfl, h⟩ := h
  injection h with h
  injection h with h
  subst h; rfl
theorem slat_inj {H : CH} {q : Option Addr} {c : Nat} {ts us : List PT} (h : SlAt 3 CTk H q c ts) (g : SlAt 3 CTk H q c us) (hl : ts.length = us.length) : ts = us := by
  refine List.ext_getElem hl fun i h1 h2 => ?_
  obtain ⟨l, o, os, e, kd, q1, o1, _, _, r1, _⟩ := tk_get h h1
  obtain ⟨l', o', os', e', kd', q2, o2, _, _, r2, _⟩ := tk_get g h2
  rw [q1] at q2; cases q2
  rw [o1] at o2; cases o2
  exact tok_inj (r1.symm.trans r2)
theorem parse_wp2 {H : CH} {sl : Sl} {ts : List PT} (h : SlAt 3 CTk H sl.q sl.c ts) (hn : sl.n = ts.length) (hlen : ts.length ≤ 4398046510976) : WpF TL 8 [.slice sl.q sl.n sl.c] H fun v H' => PrQ2 H ts v H' := by
  obtain ⟨v, H', h1, h2⟩ := parse_call h hn hlen
  refine wpF_tell rfl ⟨v, H', ⟨fun _ sl' ts' he h' hn' _ => ?_, fun e => by cases e⟩, h2⟩ fun v H' hS => hS.1 rfl sl ts rfl h hn hlen
  cases sl; cases sl'
  cases he
  rw [slat_inj h' h (hn'.symm.trans hn)]
  exact h1
theorem parse_wp {H : CH} {sl : Sl} {ts : List PT} (h : SlAt 3 CTk H sl.q sl.c ts) (hn : sl.n = ts.length) (hlen : ts.length ≤ 4398046510976) : WpF TL 8 [.slice sl.q sl.n sl.c] H fun v H' => PrQ H ts v H' :=
  (parse_wp2 h hn hlen).mono fun v H' ⟨vs, h1, h2, _⟩ => ⟨vs, h1, h2⟩
theorem u8_inj {H : CH} {q : Option Addr} {c : Nat} {a b : List UInt8} (h : SlAt 1 (CInt .u8) H q c (u8i a)) (g : SlAt 1 (CInt .u8) H q c (u8i b)) (hl : a.length = b.length) : a = b := by
  have h1 := src_ints h
  have h2 := src_ints g
  rw [u8i_len] at h1 h2
  rw [hl, h2] at h1
  injection h1 with h1
  injection h1 with h1 _
  rw [flat_ints, flat_ints] at h1
  refine List.ext_getElem hl fun i i1 i2 => ?_
  have := congrArg (fun l => l[i]?) h1
  simp only [u8i, List.getElem?_map, List.getElem?_eq_getElem i1, List.getElem?_eq_getElem i2, Option.map_some, Option.some.injEq, Value.int.injEq, true_and] at this
  exact UInt8.toNat.inj (by omega)
theorem lexf_wp {H : CH} {q : Option Addr} {c : Nat} {src : List UInt8} (h : SlAt 1 (CInt .u8) H q c (u8i src)) : WpF TL 19 [.slice q src.length c] H fun v K => HExt H K ∧ LexOut H K v (lexT src) := by
  obtain ⟨v, K, h1, h2⟩ := tell_wp (T := (tblG Try.prog LG GG)) (fun B => tg_ok) (by kernel_rfl) (lex_wp H h)
  refine wpF_tell rfl ⟨v, K, ⟨fun e => (by cases e), fun _ q' c' src' he h' => ?_⟩, h2⟩ fun v K hS => hS.2 rfl q c src rfl h
  simp only [List.cons.injEq, Value.slice.injEq, and_true] at he
  obtain ⟨rfl, hl, rfl⟩ := he
  rw [u8_inj h' h hl.symm]
  exact h1
theorem tc_rS {D : TD} {Z : TP} {X : Pan} (hD : TDOk TL D) {R : Value → Prop} {f : Nat} (he : TL.ext f = false) (h : (resFunc Try.prog (fun N ops => resD Try.prog N ops) f).isSome = true) {args : List AV} {self : Self} {Q : AV → List SV → Prop} (k : twR Z TL X D R (rF Try.prog f).body (fun t => args.getD t .bad) (st0 self) (finT (rF Try.prog f).res self Q)) : TC Z TL X f args self Q R :=
  tc_in hD he (tbS_fn h) k
def D0 : TD := ⟨[]⟩
theorem d0_ok : TDOk TL D0 := ⟨fun f hf => by cases hf⟩
theorem sameL_drop {ln : Bool} {ks ks' : List Nd} {i : Nat} {t t' : Nd} (h : ks[i]? = some t) (h' : ks'[i]? = some t') : sameL ln (ks.drop i) (ks'.drop i) = (sameN ln t t' && sameL ln (ks.drop (i + 1)) (ks'.drop (i + 1))) := by
  obtain ⟨hi, rfl⟩ := List.getElem?_eq_some_iff.1 h
  obtain ⟨hi', rfl⟩ := List.getElem?_eq_some_iff.1 h'
  rw [List.drop_eq_getElem_cons hi, List.drop_eq_getElem_cons hi']
  rfl
section
variable {Z : TP} {X : Pan}
attribute [local irreducible] TC
theorem same_tc (ln : Bool) : ∀ (N : Nat) (k : Nat) (l : Int) (x : List UInt8) (o : Nat) (ks : List Nd) (k' : Nat) (l' : Int) (x' : List UInt8) (o' : Nat) (ks' : List Nd), nsz (.mk k l x o ks) < N → ∀ (Q : AV → List SV → Prop) (R : Value → Prop), Q (rS (.bool (sameN ln (.mk k l x o ks) (.mk k' l' x' o' ks')))) [] → TC Z TL X 9 [ndA (.mk k l x o ks), ndA (.mk k' l' x' o' ks'), rS (.bool ln)] none Q R := by
  intro N
  induction N with
  | zero => intro k l x o ks k' l' x' o' ks' h; exact absurd h (Nat.not_lt_zero _)
  | succ N ih =>
  intro k l x o ks k' l' x' o' ks' hN Q R hQ
  refine tc_rS d0_ok (by rfl) (by kernel_rfl) ?_
  conv in (rF _ _).body => reduce
  conv in (rF _ _).res => reduce
  conv => whnf
  have hf : sameN ln (.mk k l x o ks) (.mk k' l' x' o' ks') = (decide (k = k') && decide (x = x') && decide (o = o') && decide (ks.length = ks'.length) && (!ln || decide (l = l')) && sameL ln ks ks') := rfl
  rw [hf] at hQ
  generalize h1 : ((k : Int) != (k' : Int)) = b1
  cases b1
  case true =>
    have : k ≠ k' := by have h : ¬ (k : Int) = (k' : Int) := (by simpa using h1); omega
    rw [decide_eq_false this] at hQ
    conv => whnf
    exact hQ
  have e1 : k = k' := by have h : (k : Int) = (k' : Int) := (by simpa using h1); omega
  conv => whnf
  generalize h2 : (!((pS x).toList == (pS x').toList)) = b2
  have pse : ∀ a b : List UInt8, ((pS a).toList == (pS b).toList) = decide (a = b) := fun a b => by
    have h : ∀ l : List UInt8, (pS l).toList = l := fun l => by simp [ByteArray.toList_eq]
    rw [h, h]
    by_cases e : a = b
    · simp [e]
    · rw [decide_eq_false e]; simpa using e
  rw [pse] at h2
  cases b2
  case true =>
    have : x ≠ x' := by simpa using h2
    rw [decide_eq_true e1, decide_eq_false this] at hQ
    conv => whnf
    exact hQ
  have e2 : x = x' := by simpa using h2
  conv => whnf
  generalize h3 : ((o : Int) != (o' : Int)) = b3
  cases b3
  case true =>
    have : o ≠ o' := by have h : ¬ (o : Int) = (o' : Int) := (by simpa using h3); omega
    rw [decide_eq_true e1, decide_eq_true e2, decide_eq_false this] at hQ
    conv => whnf
    exact hQ
  have e3 : o = o' := by have h : (o : Int) = (o' : Int) := (by simpa using h3); omega
  conv => whnf
  intro hm1
  conv => whnf
  intro hm2
  conv => whnf
  generalize h4 : (((ndsS ks).length : Int) != ((ndsS ks').length : Int)) = b4
  rw [ndsS_len, ndsS_len] at h4
  cases b4
  case true =>
    have : ks.length ≠ ks'.length := by have h : ¬ (ks.length : Int) = (ks'.length : Int) := (by simpa using h4); omega
    rw [decide_eq_true e1, decide_eq_true e2, decide_eq_true e3, decide_eq_false this] at hQ
    conv => whnf
    exact hQ
  have e4 : ks.length = ks'.length := by have h : (ks.length : Int) = (ks'.length : Int) := (by simpa using h4); omega
  rw [decide_eq_true e1, decide_eq_true e2, decide_eq_true e3, decide_eq_true e4] at hQ
  have hb : l ≠ l' ∧ ln = true ∨ (!ln || decide (l = l')) = true := by
    cases ln
    · exact .inr rfl
    · by_cases h : l = l'
      · exact .inr (by simp [h])
      · exact .inl ⟨h, rfl⟩
  rcases hb with ⟨hb, rfl⟩ | hb
  · rw [decide_eq_false hb] at hQ
    conv => whnf
    generalize h5 : (l != l') = b5
    cases b5
    case false => exact absurd (by simpa using h5) hb
    conv => whnf
    exact hQ
  rw [hb] at hQ
  simp only [Bool.true_and] at hQ
  obtain ⟨SL, hSL⟩ : ∃ SL : List Nd → List Nd → Bool, SL = sameL ln := ⟨_, rfl⟩
  obtain ⟨SN, hSN⟩ : ∃ SN : Nd → Nd → Bool, SN = sameN ln := ⟨_, rfl⟩
  have hnil : ∀ ys, SL [] ys = true := fun ys => by rw [hSL]; rfl
  have hdr : ∀ (i : Nat) (t t' : Nd), ks[i]? = some t → ks'[i]? = some t' → SL (ks.drop i) (ks'.drop i) = (SN t t' && SL (ks.drop (i + 1)) (ks'.drop (i + 1))) := fun i t t' h h' => by rw [hSL, hSN]; exact sameL_drop h h'
  rw [← hSL] at hQ
  cases ln
  rotate_left
  conv => whnf
  generalize h5 : (l != l') = b5
  cases b5
  rotate_left
  exact absurd (by simpa using hb) (by simpa using h5)
  all_goals
    conv => whnf
    refine loop_1 7 (fun m a s => ∃ i : Nat, a = rS (.int .i64 (i : Nat)) ∧ s = ⟨0, [oN (nA k l x o ks), oN (nA k' l' x' o' ks')]⟩ ∧ m + i = ks.length ∧ SL ks ks' = SL (ks.drop i) (ks'.drop i)) ks.length [] rfl ⟨0, rfl, rfl, rfl, rfl⟩ ?_
    rintro m a f s ⟨i, rfl, rfl, hm, hp⟩
    conv => whnf
    intro hmx
    conv => whnf
    refine ifT_c (fun hc => ?_) fun hc => ?_
    · have hi : i < ks.length := by simp [ndsS_len] at hc; omega
      obtain ⟨t, ht⟩ : ∃ t, ks[i]? = some t := ⟨_, List.getElem?_eq_getElem hi⟩
      obtain ⟨t', ht'⟩ : ∃ t, ks'[i]? = some t := ⟨_, List.getElem?_eq_getElem (by omega)⟩
      rw [hdr i t t' ht ht'] at hp
      have hlt := nsz_lt (List.mem_of_getElem? ht) (k := k) (l := l) (x := x) (o := o)
      obtain ⟨k1, l1, x1, o1, ks1⟩ := t
      obtain ⟨k2, l2, x2, o2, ks2⟩ := t'
      conv => whnf
      refine ⟨rfl, i, _, rfl, ndsS_get ht, ?_⟩
      conv => whnf
      refine ⟨rfl, i, _, rfl, ndsS_get ht', ?_⟩
      conv => whnf
      refine ih k1 l1 x1 o1 ks1 k2 l2 x2 o2 ks2 (by omega) _ _ ?_
      conv => whnf
      rw [← hSN]
      generalize hsm : SN (Nd.mk k1 l1 x1 o1 ks1) (Nd.mk k2 l2 x2 o2 ks2) = bs at hp ⊢
      cases bs
      · rw [Bool.false_and] at hp
        rw [hp] at hQ
        conv => whnf
        exact hQ
      · rw [Bool.true_and] at hp
        rw [ndsS_len] at hmx
        conv => whnf
        exact ⟨m - 1, [], by omega, rfl, i + 1, congrArg (fun n => rS (.int .i64 n)) (wr_inc' hi hmx), rfl, by omega, hp⟩
    · have hi : i = ks.length := by simp [ndsS_len] at hc; omega
      subst hi
      have hp : SL ks ks' = true := by rw [hp, List.drop_length]; exact hnil _
      rw [hp] at hQ
      conv => whnf
      exact hQ
end
end Can
end Go.Proofs.Ytnkfdkfmdeibfaa
end
section
namespace Go.Proofs.Ytnkfdkfmdeibfaa
namespace Can
open Go Go.RowKit
set_option linter.unusedSimpArgs false
set_option linter.unusedVariables false
set_option maxRecDepth 4000
def tree1 : Nd := nd 1 1 [nd 3 1 [.mk 36 1 [97] 0 [], nd 52 1 [.mk 36 1 [98] 0 [], .mk 30 1 [49] 0 []]]]
theorem parse1 : parseT toks1 = (tree1, 0, 0) := by kernel_rfl
theorem parse2 : parseT toks2 = (zNd, 2, 22) := by kernel_rfl
theorem slat_row {K : CH} {b : Nat} {ts : List PT} {e : TypeId} {k : Kd} (hb : b < K.nx) (ho : K.ob b = .cells ((ts.map tokV).flatten) e k) (hl : ts.length ≤ maxLen) : SlAt 3 CTk K (some ⟨b, 0, none⟩) ts.length ts := by
  have hfl : ((ts.map tokV).flatten).length = ts.length * 3 := by
    rw [flat_len' (sz := 3) (fun g hg => by obtain ⟨t, _, rfl⟩ := List.mem_map.1 hg; rfl), List.length_map]
  refine .inr ⟨b, 0, _, e, k, rfl, hb, Nat.le_refl _, hl, ho, by omega, fun i h => ?_⟩
  have hg : (ts.map tokV)[i]? = some (tokV ts[i]) := by simp [h]
  have := (flat_grp (sz := 3) (gs := ts.map tokV) (fun g hg => by obtain ⟨t, _, rfl⟩ := List.mem_map.1 hg; rfl) hg).1
  show ((((ts.map tokV).flatten).drop (0 + i * 3)).take 3) = tokV ts[i]
  rw [Nat.zero_add]
  exact this
theorem nd_cells {K : CH} {A : Nat → Prop} {t : Nd} {os : List Value} (h : SVRs K A (ndS t) os) : ∃ k l x o wa wn wc, os = [.int .i64 k, .int .i64 l, .string x, .int .i64 o, .slice wa wn wc] := by
  cases t
  cases h with | cons a1 h =>
  cases h with | cons a2 h =>
  cases h with | cons a3 h =>
  cases h with | cons a4 h =>
  cases h with | cons a5 h =>
  cases h
  cases a1
  cases a2
  cases a3
  cases a4
  obtain ⟨wa, wn, wc, rfl⟩ := row_slc a5
  exact ⟨_, _, _, _, _, _, _, rfl⟩
def SrQ (H : CH) (src : List UInt8) (v : Value) (K : CH) : Prop := ∃ vs, v = tupleV vs ∧ PrO H (sourceT src).1 (sourceT src).2.1 (sourceT src).2.2 vs K
theorem lexT_len' {src : List UInt8} {ts : List Tok} (h : lexT src = .ok ts) : (ts.map ptT).length ≤ 100000 := by
  rw [List.length_map]; exact lexT_len h
theorem grw_tk' {A K : CH} {v : Value} {ts : List PT} (h : Grw A 25 3 tokV K v ts) (hm : ts.length ≤ 9223372036854775807) : ∃ q c, v = .slice q ts.length c ∧ SlAt 3 CTk K q c ts := by
  rcases h with ⟨rfl, rfl⟩ | ⟨b, kd, rfl, h1, h2, h3, h4⟩
  · exact ⟨none, 0, rfl, .inl ⟨rfl, rfl, .inl rfl⟩⟩
  · refine ⟨_, _, rfl, ?_⟩
    have e : ts.flatMap tokV = (ts.map tokV).flatten := by rw [List.flatMap_def]
    rw [e] at h3
    exact slat_row h2 h3 (by rw [maxLen_eq]; exact hm)
theorem source_wp {H : CH} {q : Option Addr} {c : Nat} {src : List UInt8} (h : SlAt 1 (CInt .u8) H q c (u8i src)) :
    WpF TL 10 [.slice q src.length c] H fun v K => SrQ H src v K := by
  refine wpF_rS (by rfl) (by kernel_rfl) ?_
  conv in (rF _ _).body => reduce
  conv in (rF _ _).res => reduce
  repeat' (first | (simp (disch := first | omega | (decide +kernel)) only [↓RD, RU, ↓putF_get, ↓evF_t, ↓evF_c, getD_zero, pop, aop, akV, ρ0, ρ1, ↓reduceIte, Int.reduceOfNat, reduceCtorEq]) | (with_reducible first | refine condK_dec (fun _ => ?_) fun _ => ?_ | refine grd_dec (fun _ => ?_) fun _ => ?_ | refine egrd_dec (fun _ => ?_) fun _ => ?_))
  refine (lexf_wp (SlAt.good (CInt.good _) ((HExt.refl H).new _) h)).mono ?_
  rintro v K ⟨hx, hv⟩
  cases hL : lexT src with
  | error y =>
    rw [hL] at hv
    have hv : v = .tuple #[.slice none 0 0, .int .i64 y.1, .int .i64 y.2] := hv
    subst hv
    have hy : ¬ ((y.2 : Int) = 0) := by
      have : y.2 = 20 ∨ y.2 = 21 ∨ y.2 = 24 := by
        by_cases hl : src.length ≤ 20000
        · rcases (lexT_err2 hl hL).2 with e | e
          · exact .inl e
          · exact .inr (.inl e)
        · unfold lexT at hL
          rw [if_pos (by omega)] at hL
          cases hL
          exact .inr (.inr rfl)
      omega
    have hr : K.ob H.nx = .cells [.int .i64 0, .int .i64 0, .string ⟨⟨[]⟩⟩, .int .i64 0, .slice none 0 0] 28 .ex := by
      rw [hx.ob H.nx (Nat.lt_succ_self _)]
      exact new_get.trans (if_pos rfl)
    have hn : H.nx < K.nx := hx.nx
    repeat' (first | (simp (disch := first | omega | (decide +kernel)) only [↓RD, RU, ↓putF_get, ↓putF_none, ↓evF_t, ↓evF_c, set_get, pop, lop, wop, resL, resV, tupleV, isVal, isCell, Value.cells, ρ1, ρ4, ↓reduceIte, Nat.reduceEqDiff, Nat.reduceAdd, ρ5, ρ6, ρ7, ρ8, ρ15, ρ17, ρ18, ρ21, ρ22, ρ23, Kd.isRo, ρ25, ρ26, bldV, hr]) | (with_reducible first | refine condK_dec (fun _ => ?_) fun _ => ?_ | refine grd_dec (fun _ => ?_) fun _ => ?_ | refine egrd_dec (fun _ => ?_) fun _ => ?_))
    have es : sourceT src = (zNd, (y.1 : Int), (y.2 : Int)) := by unfold sourceT; rw [hL]
    rw [SrQ, es]
    exact ⟨[_, _, _], rfl, (((HExt.refl H).new _).trans hx).set (Nat.le_refl _) _, [_, _, _, _, _], rfl, .cons (.sc rfl) (.cons (.sc rfl) (.cons (.sc rfl) (.cons (.sc rfl) (.cons .row0 .nil))))⟩
  | ok ts =>
    rw [hL] at hv
    obtain ⟨vt, rfl, hg⟩ := hv
    repeat' (first | (simp (disch := first | omega | (decide +kernel)) only [↓RD, RU, ↓putF_get, ↓evF_t, ↓evF_c, pop, ρ0, ρ1, ↓reduceIte, Nat.reduceEqDiff, ρ5, ρ6]) | (with_reducible first | refine condK_dec (fun _ => ?_) fun _ => ?_ | refine grd_dec (fun _ => ?_) fun _ => ?_ | refine egrd_dec (fun _ => ?_) fun _ => ?_))
    have hlen := lexT_len' hL
    obtain ⟨q', c', rfl, hs⟩ := grw_tk' (grw_pt hg) (by omega)
    refine (parse_wp (sl := ⟨q', _, c'⟩) hs rfl (by omega)).mono ?_
    rintro v K2 ⟨vs, rfl, hx2, os, rfl, hs2⟩
    obtain ⟨k, l, x, o, wa, wn, wc, rfl⟩ := nd_cells hs2
    have hn : H.nx + 1 ≤ K.nx := hx.nx
    have hn2 := hx2.nx
    have hr : K2.ob H.nx = .cells [.int .i64 0, .int .i64 0, .string ⟨⟨[]⟩⟩, .int .i64 0, .slice none 0 0] 28 .ex := by
      rw [hx2.ob H.nx (by omega), hx.ob H.nx (Nat.lt_succ_self _)]
      exact new_get.trans (if_pos rfl)
    repeat' (first | (simp (disch := first | omega | (decide +kernel)) only [↓RD, RU, ↓putF_get, ↓putF_none, ↓evF_t, set_get, pop, lop, wop, resL, resV, tupleV, isVal, isCell, Value.cells, ↓reduceIte, Nat.reduceEqDiff, Nat.reduceAdd, ρ5, ρ6, ρ7, ρ8, ρ15, ρ17, ρ18, ρ21, ρ22, ρ23, Kd.isRo, ρ25, ρ26, hr]) | (with_reducible first | refine condK_dec (fun _ => ?_) fun _ => ?_ | refine grd_dec (fun _ => ?_) fun _ => ?_ | refine egrd_dec (fun _ => ?_) fun _ => ?_))
    have es : sourceT src = parseT (ts.map ptT) := by unfold sourceT; rw [hL]
    rw [SrQ, es]
    refine ⟨[_, _, _], rfl, ((((HExt.refl H).new _).trans hx).trans hx2).set (Nat.le_refl _) _, [_, _, _, _, _], rfl, hs2.mv fun b hb => ?_⟩
    obtain ⟨h1, h2⟩ := hb
    exact ⟨⟨by omega, h2⟩, set_ne (by omega)⟩
theorem lex_1 : lexT src1 = .ok [⟨4, 1, [97]⟩, ⟨9, 1, [61]⟩, ⟨4, 1, [98]⟩, ⟨9, 1, [44]⟩, ⟨5, 1, [49]⟩, ⟨1, 1, []⟩, ⟨0, 1, []⟩] := by kernel_rfl
theorem lex_2 : lexT src2 = .ok [⟨4, 1, [98]⟩, ⟨1, 1, []⟩, ⟨5, 2, [49]⟩, ⟨9, 2, [61]⟩, ⟨4, 2, [97]⟩, ⟨1, 2, []⟩, ⟨0, 2, []⟩] := by kernel_rfl
theorem src1_wp {H : CH} {p : Nat} (hp : p < H.nx) (ho : H.ob p = .cells (bsV src1) 5 .ex) : WpF TL 10 [.slice (some ⟨p, 0, none⟩) 8 8] H fun v K => PrQ H toks1 v K := by
  refine (source_wp (slat_bs hp ho (by rw [maxLen_eq]; decide))).mono fun v K h => ?_
  have e : sourceT src1 = parseT toks1 := by unfold sourceT; rw [lex_1]; rfl
  unfold SrQ at h
  rw [e] at h
  exact h
theorem src2_wp {H : CH} {p : Nat} (hp : p < H.nx) (ho : H.ob p = .cells (bsV src2) 5 .ex) : WpF TL 10 [.slice (some ⟨p, 0, none⟩) 7 7] H fun v K => PrQ H toks2 v K := by
  refine (source_wp (slat_bs hp ho (by rw [maxLen_eq]; decide))).mono fun v K h => ?_
  have e : sourceT src2 = parseT toks2 := by unfold sourceT; rw [lex_2]; rfl
  unfold SrQ at h
  rw [e] at h
  exact h
end Can
end Go.Proofs.Ytnkfdkfmdeibfaa
end
section
namespace Go.Proofs.Ytnkfdkfmdeibfaa
namespace Can
open Go Go.RowKit
set_option linter.unusedSimpArgs false
set_option linter.unusedVariables false
set_option maxRecDepth 4000
noncomputable def knP : RCode × RCode × RCode × RCode × RCode × RCode := match (rF Try.prog 7).body with
  | .seq a (.seq b (.seq c (.seq d (.seq e f)))) => (a, b, c, d, e, f)
  | _ => (.skip, .skip, .skip, .skip, .skip, .skip)
theorem kn_body : (rF Try.prog 7).body = .seq knP.1 (.seq knP.2.1 (.seq knP.2.2.1 (.seq knP.2.2.2.1 (.seq knP.2.2.2.2.1 knP.2.2.2.2.2)))) := by kernel_rfl
theorem row_inv {K : CH} {A : Nat → Prop} {n : Nd} {ks : List Nd} {w : Value} (h : SVR K A (.row 5 (ndsS (n :: ks))) w) : ∃ b os e kd, w = .slice (some ⟨b, 0, none⟩) (ks.length + 1) (ks.length + 1) ∧ A b ∧ K.ob b = .cells os e kd ∧ kd.isRo = false ∧ SVRs K A (ndsS (n :: ks)).flatten os := by
  have hl : (ndsS (n :: ks)).length = ks.length + 1 := ndsS_len
  generalize hg : ndsS (n :: ks) = gs at h hl
  cases h with
  | row0 => simp at hl
  | row hne hb ho hk hg hs => rw [hl]; exact ⟨_, _, _, _, rfl, hb, ho, hk, hs⟩
theorem nd_inv {K : CH} {A : Nat → Prop} {k : Nat} {l : Int} {x : List UInt8} {o : Nat} {ks : List Nd} {rest : List SV} {os : List Value} (h : SVRs K A (ndS (.mk k l x o ks) ++ rest) os) : ∃ w os', os = .int .i64 (k : Nat) :: .int .i64 l :: .string ⟨⟨x⟩⟩ :: .int .i64 (o : Nat) :: w :: os' ∧ SVR K A (.row 5 (ndsS ks)) w ∧ SVRs K A rest os' := by
  cases h with | cons a1 h =>
  cases h with | cons a2 h =>
  cases h with | cons a3 h =>
  cases h with | cons a4 h =>
  cases h with | cons a5 h =>
  cases a1
  cases a2
  cases a3
  cases a4
  exact ⟨_, _, rfl, a5, h⟩
theorem known_wp {H : CH} : WpF TL 7 [] H fun v K => HExt H K ∧ v = .bool true := by
  refine wpF_rS (by rfl) (by kernel_rfl) ?_
  rw [kn_body]
  conv in (rF _ _).res => reduce
  have e : knP.1 = _ := rfl
  conv at e => rhs; reduce
  rw [e]
  clear e
  have e : knP.2.1 = _ := rfl
  conv at e => rhs; reduce
  rw [e]
  clear e
  repeat' (first | (simp (maxSteps := 2000000) (disch := first | omega | (decide +kernel)) only [↓RD, RU, ↓putF_get, ↓evF_t, ↓evF_c, new_get, pop, aop, wop, akV, isVal, Value.cells, ρ0, ρ1, ρ4, ↓reduceIte, Nat.reduceAdd, Int.reduceOfNat, ρ7, ρ8, ρ19, ρ20, Kd.isRo, ρ25, ρ26, bldV, Nat.reduceLeDiff, frzV]) | (with_reducible first | refine condK_dec (fun _ => ?_) fun _ => ?_ | refine grd_dec (fun _ => ?_) fun _ => ?_ | refine egrd_dec (fun _ => ?_) fun _ => ?_))
  refine (src1_wp (p := H.nx) (Nat.lt_succ_self _) ((new_get.trans (if_pos rfl)).trans rfl)).mono ?_
  rintro v K ⟨vs, rfl, hE, os, rfl, hs⟩
  rw [parse1] at hs ⊢
  have hK : HExt H K := ((HExt.refl H).new _).trans hE
  clear hE
  obtain ⟨w, os', rfl, hw, hn⟩ := nd_inv (rest := []) (k := 1) (l := 1) (x := []) (o := 0) (ks := [nd 3 1 [.mk 36 1 [97] 0 [], nd 52 1 [.mk 36 1 [98] 0 [], .mk 30 1 [49] 0 []]]]) hs
  cases hn
  obtain ⟨b1, os1, e1, kd1, rfl, hb1, ob1, kk1, hs1⟩ := row_inv hw
  obtain ⟨w1, os', rfl, hw1, hn⟩ := nd_inv (rest := []) (k := 3) (l := 1) (x := []) (o := 0) (ks := [.mk 36 1 [97] 0 [], nd 52 1 [.mk 36 1 [98] 0 [], .mk 30 1 [49] 0 []]]) hs1
  cases hn
  obtain ⟨b2, os2, e2, kd2, rfl, hb2, ob2, kk2, hs2⟩ := row_inv hw1
  obtain ⟨w2, os', rfl, hw2, hn⟩ := nd_inv (rest := ndS (nd 52 1 [.mk 36 1 [98] 0 [], .mk 30 1 [49] 0 []]) ++ []) (k := 36) (l := 1) (x := [97]) (o := 0) (ks := []) hs2
  obtain ⟨w3, os', rfl, hw3, hn⟩ := nd_inv (rest := []) (k := 52) (l := 1) (x := []) (o := 0) (ks := [.mk 36 1 [98] 0 [], .mk 30 1 [49] 0 []]) hn
  cases hn
  obtain ⟨b3, os3, e3, kd3, rfl, hb3, ob3, kk3, hs3⟩ := row_inv hw3
  obtain ⟨w4, os', rfl, hw4, hn⟩ := nd_inv (rest := ndS (.mk 30 1 [49] 0 []) ++ []) (k := 36) (l := 1) (x := [98]) (o := 0) (ks := []) hs3
  obtain ⟨w5, os', rfl, hw5, hn⟩ := nd_inv (rest := []) (k := 30) (l := 1) (x := [49]) (o := 0) (ks := []) hn
  cases hn
  obtain ⟨_, _, _, rfl⟩ := row_slc hw2
  have l1 : b1 < K.nx := hb1.2
  have l2 : b2 < K.nx := hb2.2
  have l3 : b3 < K.nx := hb3.2
  have n1 : b1 ≠ K.nx := Nat.ne_of_lt l1
  have n2 : b2 ≠ K.nx := Nat.ne_of_lt l2
  have n3 : b3 ≠ K.nx := Nat.ne_of_lt l3
  have n1' : b1 ≠ K.nx + 1 := by omega
  have n2' : b2 ≠ K.nx + 1 := by omega
  have n3' : b3 ≠ K.nx + 1 := by omega
  repeat' (first | (simp (maxSteps := 2000000) (disch := first | omega | (decide +kernel)) only [↓RD, RU, ↓putF_get, ↓putF_none, ↓evF_t, new_get, pop, aop, wop, tupleV, akV, isVal, isCell, Value.cells, ↓reduceIte, Nat.reduceEqDiff, Nat.reduceAdd, ρ5, ρ6, ρ7, ρ8, ρ17, ρ21, ρ22, ρ23, Kd.isRo, ρ25, ρ26]) | (with_reducible first | refine condK_dec (fun _ => ?_) fun _ => ?_ | refine grd_dec (fun _ => ?_) fun _ => ?_ | refine egrd_dec (fun _ => ?_) fun _ => ?_))
  have e : knP.2.2.1 = _ := rfl
  conv at e => rhs; reduce
  rw [e]
  clear e
  repeat' (first | (simp (maxSteps := 2000000) (disch := first | omega | (decide +kernel)) only [↓RD, RU, ↓putF_get, ↓evF_t, ↓evF_c, new_get, set_get, pop, lop, ↓reduceIte, Nat.reduceEqDiff, Nat.reduceAdd, Int.reduceOfNat, reduceCtorEq, ρ5, ρ6, ρ7, ρ8, Int.reduceToNat, ρ28, Nat.zero_mul, ob1, n1]) | (with_reducible first | refine condK_dec (fun _ => ?_) fun _ => ?_ | refine grd_dec (fun _ => ?_) fun _ => ?_ | refine egrd_dec (fun _ => ?_) fun _ => ?_))
  have e : knP.2.2.2.1 = _ := rfl
  conv at e => rhs; reduce
  rw [e]
  clear e
  repeat' (first | (simp (maxSteps := 2000000) (disch := first | omega | (decide +kernel)) only [↓RD, RU, ↓putF_get, ↓putF_none, ↓evF_t, ↓evF_c, new_nx, set_nx, new_get, set_get, pop, lop, aop, wop, akV, isVal, isCell, Value.cells, ↓reduceIte, Nat.reduceEqDiff, Nat.reduceAdd, Int.reduceOfNat, ρ5, ρ6, ρ7, ρ8, ρ15, ρ17, ρ18, ρ21, ρ22, ρ23, Kd.isRo, ρ25, ρ26, Int.reduceToNat, ρ28, Nat.zero_mul, ob1, ob2, n1, n2]) | (with_reducible first | refine condK_dec (fun _ => ?_) fun _ => ?_ | refine grd_dec (fun _ => ?_) fun _ => ?_ | refine egrd_dec (fun _ => ?_) fun _ => ?_))
  have e : knP.2.2.2.2.1 = _ := rfl
  conv at e => rhs; reduce
  rw [e]
  clear e
  repeat' (first | (simp (maxSteps := 2000000) (disch := first | omega | (decide +kernel)) only [↓RD, RU, ↓putF_get, ↓evF_t, ↓evF_c, new_nx, set_nx, new_get, aop, wop, akV, isVal, Value.cells, ρ0, ρ1, ρ4, ↓reduceIte, Nat.reduceAdd, Int.reduceOfNat, ρ7, ρ8, ρ19, ρ20, Kd.isRo, ρ25, ρ26, bldV, Nat.reduceLeDiff, frzV]) | (with_reducible first | refine condK_dec (fun _ => ?_) fun _ => ?_ | refine grd_dec (fun _ => ?_) fun _ => ?_ | refine egrd_dec (fun _ => ?_) fun _ => ?_))
  refine (src2_wp (p := K.nx + 1 + 1) (Nat.lt_succ_self _) ((new_get.trans (if_pos rfl)).trans rfl)).mono ?_
  rintro v K2 ⟨vs, rfl, hE2, os, rfl, hsz⟩
  rw [parse2] at hsz ⊢
  have hx2 := hE2.ob
  have m4 := hx2 (K.nx + 1) (by show K.nx + 1 < K.nx + 1 + 1 + 1; omega)
  have m3 := hx2 b3 (by show b3 < K.nx + 1 + 1 + 1; omega)
  simp only [new_get, set_get, new_nx, set_nx, n3, n3', show ¬ (b3 = K.nx + 1 + 1) by omega, show ¬ (K.nx + 1 = K.nx + 1 + 1) by omega, if_false, if_true, ↓reduceIte, ob3] at m4 m3
  have e : knP.2.2.2.2.2 = _ := rfl
  conv at e => rhs; reduce
  rw [e]
  clear e
  repeat' (first | (simp (maxSteps := 2000000) (disch := first | omega | (decide +kernel)) only [↓RD, RU, ↓putF_get, ↓evF_t, ↓evF_c, pop, lop, tupleV, ↓reduceIte, Nat.reduceEqDiff, Int.reduceOfNat, ρ5, ρ6, Int.reduceToNat, ρ28, Nat.zero_mul, m3, m4]) | (with_reducible first | refine condK_dec (fun _ => ?_) fun _ => ?_ | refine grd_dec (fun _ => ?_) fun _ => ?_ | refine egrd_dec (fun _ => ?_) fun _ => ?_))
  rw [pstr_eq, decide_eq_true (by rfl)]
  repeat' (first | (simp (maxSteps := 2000000) (disch := first | omega | (decide +kernel)) only [↓RD, RU, ↓putF_get, ↓evF_t, ↓evF_c, pop, resL, resV, tupleV, ↓reduceIte, Nat.reduceEqDiff]) | (with_reducible first | refine condK_dec (fun _ => ?_) fun _ => ?_ | refine grd_dec (fun _ => ?_) fun _ => ?_ | refine egrd_dec (fun _ => ?_) fun _ => ?_))
  exact (((((hK.new _).set (by have := hK.nx; omega) _).new _).set (by have := hK.nx; omega) _).new _).trans hE2
end Can
end Go.Proofs.Ytnkfdkfmdeibfaa
end
section
namespace Go.Proofs.Ytnkfdkfmdeibfaa
namespace Can
open Go Go.RowKit
set_option linter.unusedSimpArgs false
set_option linter.unusedVariables false
set_option maxRecDepth 4000
mutual
theorem NR.same {ln : Bool} : ∀ {a b : Nd}, NR ln a b → sameN ln a b = true
  | _, _, .mk hl hs => by
    simp only [sameN, NRs.sameL hs, hs.len, decide_true, Bool.and_true, Bool.true_and]
    cases ln with
    | false => rfl
    | true => simp [hl rfl]
theorem NRs.sameL {ln : Bool} : ∀ {a b : List Nd}, NRs ln a b → sameL ln a b = true
  | _, _, .nil => rfl
  | _, _, .cons h t => by
    show (sameN ln _ _ && Can.sameL ln _ _) = true
    rw [NR.same h, NRs.sameL t]; rfl
end
mutual
theorem NR.ht {ln : Bool} : ∀ {a b : Nd}, NR ln a b → htN a = htN b
  | _, _, .mk hl hs => congrArg (· + 1) (NRs.ht hs)
theorem NRs.ht {ln : Bool} : ∀ {a b : List Nd}, NRs ln a b → htL a = htL b
  | _, _, .nil => rfl
  | _, _, .cons h t => by
    show max (htN _) (htL _) = max (htN _) (htL _)
    rw [NR.ht h, NRs.ht t]
end
theorem top_rel {ln : Bool} {ts us : List PT} {N d : Nat} (C : TA ts us N N d ln) : ∀ f acc acc' i i', i' = i + d → (i < N → NRs ln acc acc') → RR N d ln N i i (gr ts f (.top acc) i) (gr us f (.top acc') i') := by
  intro f
  induction f with
  | zero => intros; exact trivial
  | succ f ih =>
    intro acc acc' i i' e h
    simp only [gr]
    refine rr_kd C 0 e (Nat.le_refl _) (Nat.le_refl _) (Nat.le_refl _) (rr_ok (Nat.le_refl _) e h) ?_
    have hs := gr_rel C f .stmt .stmt i i' e (.z rfl)
    simp only [NT.stat, NT.adv, if_true] at hs
    refine rr_pb1 N 0 hs (Nat.le_refl _) (Nat.le_succ _) (by omega) (by omega) fun n n' j j' e' hj hn => ih _ _ j j' e' fun hj' => (h (by omega)).app (.one hn)
theorem nowT_some {ts : List PT} {i : Nat} {t : PT} (h : ts[i]? = some t) : nowT ts i = t := by
  unfold nowT
  rw [h]
theorem nowT_end {ts : List PT} {i : Nat} (h : ts.length ≤ i) : (nowT ts i).kind = 0 ∧ (nowT ts i).text = [] ∧ (∀ t, ts.getLast? = some t → (nowT ts i).line = t.line) := by
  unfold nowT
  rw [List.getElem?_eq_none h]
  cases ts.getLast? with
  | none => exact ⟨rfl, rfl, fun _ h => by cases h⟩
  | some t => exact ⟨rfl, rfl, fun _ h => by cases h; rfl⟩
theorem gr_top (ts : List PT) : ∃ r, gr ts (ts.length * 64 + 100) (.top []) 0 = some r := by
  have := top_gd (ts := ts)
  match h : gr ts (ts.length * 64 + 100) (.top []) 0, this with
  | some r, _ => exact ⟨r, rfl⟩
end Can
end Go.Proofs.Ytnkfdkfmdeibfaa
end
section
namespace Go.Proofs.Ytnkfdkfmdeibfaa
namespace Can
open Go Go.RowKit
set_option linter.unusedSimpArgs false
set_option linter.unusedVariables false
set_option maxRecDepth 4000
theorem gr_of {ts : List PT} {f : Nat} {r : Except Nat (List Nd × Nat)} (h : gr ts f (.top []) 0 = some r) : gr ts (ts.length * 64 + 100) (.top []) 0 = some r := by
  obtain ⟨r', hr⟩ := gr_top ts
  rw [hr]
  have h1 := gr_mono (Nat.le_max_left f (ts.length * 64 + 100)) h
  have h2 := gr_mono (Nat.le_max_right f (ts.length * 64 + 100)) hr
  rw [h1] at h2
  exact h2.symm
theorem parseT_err {ts : List PT} {f e : Nat} (h : gr ts f (.top []) 0 = some (.error e)) : parseT ts = (zNd, (nowT ts e).line, 22) := by
  unfold parseT
  rw [gr_of h]
theorem parseT_ok {ts : List PT} {f j : Nat} {l : List Nd} (h : gr ts f (.top []) 0 = some (.ok (l, j))) : ∃ a er, parseT ts = (a, 0, er) ∧ (er = 0 ∨ er = 11) := by
  unfold parseT
  rw [gr_of h]
  show ∃ a er, (if 60 < htL l + 1 then (zNd, 0, 11) else (nd 1 (hdLine (nowT ts 0).line l) l, 0, 0)) = (a, 0, er) ∧ _
  by_cases h60 : 60 < htL l + 1
  · rw [if_pos h60]; exact ⟨_, _, rfl, .inr rfl⟩
  · rw [if_neg h60]; exact ⟨_, _, rfl, .inl rfl⟩
end Can
end Go.Proofs.Ytnkfdkfmdeibfaa
end
section
namespace Go.Proofs.Ytnkfdkfmdeibfaa
namespace Can
open Go Go.RowKit
set_option linter.unusedSimpArgs false
set_option linter.unusedVariables false
set_option maxRecDepth 4000
theorem bad_first {ts : List PT} {i f : Nat} {v : PT} {l : List Nd} {j : Nat} (hv : gr [v] 100 .stmt 0 = some (.error 0)) (hk : (nowT ts i).kind = v.kind) (hx : v.kind ≠ 3 → (nowT ts i).text = v.text) : gr ts f .stmt i ≠ some (.ok (l, j)) := fun h => by
  have C : TA [v] ts 1 1 i false := ⟨fun p hp => by
    have : p = 0 := by omega
    subst this
    rw [Nat.zero_add]
    exact ⟨hk, fun h3 => ⟨hx h3, fun e => by cases e⟩⟩, .inl rfl⟩
  have h1 := gr_rel C 100 .stmt .stmt 0 i (by omega) (.z rfl)
  rw [hv] at h1
  have h2 := gr_mono (Nat.le_max_left 100 f) (h1.2 (by decide))
  have h3 := gr_mono (Nat.le_max_right 100 f) h
  rw [h2] at h3
  cases h3
theorem bf_word : ∀ s, s = s_elif ∨ s = s_else ∨ s = s_except ∨ s = s_finally → gr [⟨8, 0, s⟩] 100 .stmt 0 = some (.error 0) := by
  rintro s (rfl | rfl | rfl | rfl)
  all_goals kernel_rfl
theorem bf_out : gr [⟨3, 0, []⟩] 100 .stmt 0 = some (.error 0) := by kernel_rfl
theorem bf_in (x : List UInt8) : gr [⟨2, 0, x⟩] 100 .stmt 0 = some (.error 0) := by kernel_rfl
theorem top_first {ts : List PT} {f j : Nat} {acc l : List Nd} {i : Nat} (h : gr ts f (.top acc) i = some (.ok (l, j))) : (nowT ts i).kind ≠ 3 ∧ (nowT ts i).kind ≠ 2 ∧ ∀ s, s = s_elif ∨ s = s_else ∨ s = s_except ∨ s = s_finally → isT ts i s = false := by
  cases f with
  | zero => cases h
  | succ f =>
    simp only [gr] at h
    split at h
    · rename_i hk
      refine ⟨by rw [hk]; decide, by rw [hk]; decide, fun s _ => ?_⟩
      cases hs : isT ts i s with
      | false => rfl
      | true =>
        unfold isT at hs
        rw [hk] at hs
        simp at hs
    · have hst : ∃ n j, gr ts f .stmt i = some (.ok (n, j)) := by
        match hq : gr ts f .stmt i with
        | none => rw [hq] at h; cases h
        | some (.error e) => rw [hq] at h; cases h
        | some (.ok (n, j)) => exact ⟨n, j, rfl⟩
      obtain ⟨n, j, hst⟩ := hst
      refine ⟨fun hk => bad_first bf_out hk (fun h => absurd rfl h) hst, fun hk => bad_first (bf_in (nowT ts i).text) hk (fun _ => rfl) hst, fun s hs => ?_⟩
      cases his : isT ts i s with
      | false => rfl
      | true =>
        exfalso
        unfold isT at his
        obtain ⟨h1, h2, h3⟩ := of_decide_eq_true his
        have hw : isWd s = true := by
          rcases hs with rfl | rfl | rfl | rfl <;> rfl
        rw [hw] at h3
        exact bad_first (bf_word s hs) (of_decide_eq_true h3.symm) (fun _ => h2) hst
theorem top_app {ts : List PT} (pre : List Nd) : ∀ f acc i l j, gr ts f (.top acc) i = some (.ok (l, j)) → gr ts f (.top (pre ++ acc)) i = some (.ok (pre ++ l, j)) := by
  intro f
  induction f with
  | zero => intro acc i l j h; cases h
  | succ f ih =>
    intro acc i l j h
    simp only [gr] at h ⊢
    split at h
    · rename_i hk
      cases h
      rw [if_pos hk]
    · rename_i hk
      rw [if_neg hk]
      match hq : gr ts f .stmt i with
      | none => rw [hq] at h; cases h
      | some (.error e) => rw [hq] at h; cases h
      | some (.ok ([], i1)) => rw [hq] at h; cases h
      | some (.ok (_ :: _ :: _, i1)) => rw [hq] at h; cases h
      | some (.ok ([s], i1)) =>
        rw [hq] at h
        have := ih _ _ _ _ (show gr ts f (.top (acc ++ [s])) i1 = _ from h)
        rw [← List.append_assoc] at this
        exact this
theorem top_pre {a c : List PT} {m : Nat} (C : TA a c m (m + 1) 0 true) (h0 : ∀ p, p < m → (nowT a p).kind ≠ 0) : ∀ f acc acc' i l, gr a f (.top acc) i = some (.ok (l, m)) → NRs true acc acc' → ∃ l', NRs true l l' ∧ ∀ g r, gr c g (.top l') m = some r → ∃ g', gr c g' (.top acc') i = some r := by
  intro f
  induction f with
  | zero => intro acc acc' i l h; cases h
  | succ f ih =>
    intro acc acc' i l h hn
    have him := (top_kj _ _ _ _ _ h).2.2.2
    simp only [gr] at h
    split at h
    · rename_i hk
      cases h
      exact ⟨acc', hn, fun g r hr => ⟨g, hr⟩⟩
    · rename_i hk
      have hr := gr_rel C f .stmt .stmt i i rfl (.z rfl)
      match hq : gr a f .stmt i, hr with
      | none, _ => rw [hq] at h; cases h
      | some (.error e), _ => rw [hq] at h; cases h
      | some (.ok ([], i1)), _ => rw [hq] at h; cases h
      | some (.ok (_ :: _ :: _, i1)), _ => rw [hq] at h; cases h
      | some (.ok ([s], i1)), hr =>
        rw [hq] at h
        have h : gr a f (.top (acc ++ [s])) i1 = some (.ok (l, m)) := h
        have hi1 := (top_kj _ _ _ _ _ h).2.2.2
        have hi2 : i + 1 ≤ i1 := hr.1
        obtain ⟨s', hs', hns⟩ := hr.2 (show i1 < m + 1 by omega)
        cases hns with | cons hns ht =>
        cases ht
        obtain ⟨l', hl', hg⟩ := ih _ (acc' ++ [_]) i1 l h (hn.app (.one hns))
        refine ⟨l', hl', fun g r hr => ?_⟩
        obtain ⟨g', hg'⟩ := hg g r hr
        refine ⟨max f g' + 1, ?_⟩
        have hkc : ¬ (nowT c i).kind = 0 := by
          have e := C.knd (p := i) (p' := i) (by omega) rfl
          rw [e]; exact hk
        simp only [gr]
        rw [if_neg hkc, gr_mono (Nat.le_max_left f g') hs']
        exact gr_mono (Nat.le_max_right f g') hg'
theorem parseT_inv {ts : List PT} {t : Nd} (h : parseT ts = (t, 0, 0)) : ∃ l j, gr ts (ts.length * 64 + 100) (.top []) 0 = some (.ok (l, j)) ∧ t.kids = l ∧ htL l + 1 ≤ 60 := by
  obtain ⟨r, hr⟩ := gr_top ts
  unfold parseT at h
  rw [hr] at h
  match r, h with
  | .error e, h =>
    have := congrArg (fun x => x.2.2) h
    exact absurd this (by show ¬ ((22 : Int) = 0); decide)
  | .ok (l, j), h =>
    refine ⟨l, j, hr, ?_⟩
    have h : (if 60 < htL l + 1 then (zNd, (0 : Int), (11 : Int)) else (nd 1 (hdLine (nowT ts 0).line l) l, 0, 0)) = (t, 0, 0) := h
    by_cases h60 : 60 < htL l + 1
    · rw [if_pos h60] at h; cases h
    · rw [if_neg h60] at h
      cases h
      exact ⟨rfl, by omega⟩
theorem parseT_of {ts : List PT} {f j : Nat} {l : List Nd} (h : gr ts f (.top []) 0 = some (.ok (l, j))) (h60 : htL l + 1 ≤ 60) : ∃ t, parseT ts = (t, 0, 0) ∧ t.kids = l := by
  unfold parseT
  rw [gr_of h]
  show ∃ t, (if 60 < htL l + 1 then (zNd, (0 : Int), (11 : Int)) else (nd 1 (hdLine (nowT ts 0).line l) l, 0, 0)) = (t, 0, 0) ∧ _
  rw [if_neg (by omega)]
  exact ⟨_, rfl, rfl⟩
def frT (x : List PT) (k : Nat) (n : Int) : List PT := x ++ (List.replicate k ⟨3, n, []⟩ ++ [⟨0, n, []⟩])
theorem frT_len {x : List PT} {k : Nat} {n : Int} : (frT x k n).length = x.length + k + 1 := by simp [frT]; omega
theorem frT_x {x : List PT} {k : Nat} {n : Int} {p : Nat} (h : p < x.length) : nowT (frT x k n) p = x[p] := nowT_some (by unfold frT; rw [List.getElem?_append_left h, List.getElem?_eq_getElem h])
theorem frT_o {x : List PT} {k : Nat} {n : Int} {p : Nat} (h : x.length ≤ p) (h2 : p < x.length + k) : nowT (frT x k n) p = ⟨3, n, []⟩ := nowT_some (by
  unfold frT
  rw [List.getElem?_append_right h, List.getElem?_append_left (by rw [List.length_replicate]; omega), List.getElem?_replicate, if_pos (by omega)])
theorem frT_e {x : List PT} {k : Nat} {n : Int} : nowT (frT x k n) (x.length + k) = ⟨0, n, []⟩ := nowT_some (by
  unfold frT
  rw [List.getElem?_append_right (by omega), List.getElem?_append_right (by rw [List.length_replicate]; omega), List.length_replicate, show x.length + k - x.length - k = 0 by omega]; rfl)
theorem frT_k {x : List PT} {k : Nat} {n : Int} (hx : ∀ t ∈ x, t.kind ≠ 0) {p : Nat} (h : p < x.length + k) : (nowT (frT x k n) p).kind ≠ 0 := by
  rcases Nat.lt_or_ge p x.length with g | g
  · rw [frT_x g]; exact hx _ (List.getElem_mem g)
  · rw [frT_o g h]; exact (show ¬ ((3 : Int) = 0) by decide)
theorem frT_end {x : List PT} {k : Nat} {n : Int} (hx : ∀ t ∈ x, t.kind ≠ 0) {l : List Nd} {j : Nat} (h : gr (frT x k n) ((frT x k n).length * 64 + 100) (.top []) 0 = some (.ok (l, j))) : j = x.length + k := by
  have h1 : x.length + k ≤ j := by
    rcases Nat.lt_or_ge j (x.length + k) with g | g
    · exact absurd (top_kj _ _ _ _ _ h).2.2.1 (frT_k hx g)
    · exact g
  have C : TA (frT x k n) (x ++ List.replicate k ⟨3, n, []⟩) (j + 1) (j + 1) 0 false := ⟨fun p hp => by
    rw [Nat.add_zero]
    have hl : (x ++ List.replicate k (⟨3, n, []⟩ : PT)).length = x.length + k := by simp
    rcases Nat.lt_or_ge p (x.length + k) with g | g
    · have e : (x ++ List.replicate k (⟨3, n, []⟩ : PT))[p]? = (frT x k n)[p]? := by
        show _ = (x ++ (List.replicate k ⟨3, n, []⟩ ++ [⟨0, n, []⟩]))[p]?
        rw [← List.append_assoc]
        exact (List.getElem?_append_left (by rw [hl]; exact g)).symm
      have hpl : p < (frT x k n).length := by rw [frT_len]; omega
      have e2 : nowT (x ++ List.replicate k (⟨3, n, []⟩ : PT)) p = nowT (frT x k n) p := by
        have hg : (frT x k n)[p]? = some (frT x k n)[p] := List.getElem?_eq_getElem hpl
        rw [nowT_some hg, nowT_some (e.trans hg)]
      rw [e2]
      exact ⟨rfl, fun _ => ⟨rfl, fun e => by cases e⟩⟩
    · obtain ⟨b1, b2, _⟩ := nowT_end (ts := x ++ List.replicate k (⟨3, n, []⟩ : PT)) (i := p) (by rw [hl]; exact g)
      rcases Nat.lt_or_ge (x.length + k) p with g2 | g2
      · obtain ⟨a1, a2, _⟩ := nowT_end (ts := frT x k n) (i := p) (by rw [frT_len]; omega)
        exact ⟨b1.trans a1.symm, fun _ => ⟨b2.trans a2.symm, fun e => by cases e⟩⟩
      · have : p = x.length + k := by omega
        subst this
        rw [frT_e]
        exact ⟨b1, fun _ => ⟨b2, fun e => by cases e⟩⟩, .inl rfl⟩
  have h2 := top_rel C ((frT x k n).length * 64 + 100) [] [] 0 0 rfl fun _ => .nil
  rw [h] at h2
  obtain ⟨l', e, _⟩ := h2.2 (Nat.lt_succ_self _)
  have h3 := gr_gd (ts := x ++ List.replicate k (⟨3, n, []⟩ : PT)) ((frT x k n).length * 64 + 100) (.top []) 0 trivial (Nat.zero_le _) (by simp only [NT.rank, frT_len, List.length_append, List.length_replicate]; omega)
  rw [e] at h3
  have h4 := h3.2.1
  simp only [List.length_append, List.length_replicate] at h4
  omega
theorem cuts_no {x0 : List PT} {z : PT} {k : Nat} {n : Int} (hx : ∀ t ∈ x0 ++ [z], t.kind ≠ 0) (h1 : z.kind ≠ 1) (h3 : z.kind ≠ 3) {t : Nd} : parseT (frT (x0 ++ [z]) k n) ≠ (t, 0, 0) := fun h => by
  obtain ⟨l, j, hg, _, _⟩ := parseT_inv h
  have hj := frT_end hx hg
  obtain ⟨k1, k2, k3, k4⟩ := top_kj _ _ _ _ _ hg
  have hz : (nowT (frT (x0 ++ [z]) k n) x0.length).kind = z.kind := by
    rw [frT_x (by simp)]; simp
  have hl : (x0 ++ [z]).length = x0.length + 1 := by simp
  have hst : St (frT (x0 ++ [z]) k n) (x0.length + 1) := by
    rcases Nat.eq_zero_or_pos k with g | g
    · rcases k2 with e | e
      · omega
      · rw [hj, hl] at e; rw [show x0.length + 1 + k = x0.length + 1 by omega] at e; exact e
    · exact k1 (x0.length + 1) (by omega) (by omega) (by rw [frT_o (by omega) (by omega)])
  rcases hst.2 with e | e
  · rw [Nat.add_sub_cancel, hz] at e; exact h1 e
  · rw [Nat.add_sub_cancel, hz] at e; exact h3 e
theorem cuts_yes {x os b b' : List PT} {k : Nat} {n : Int} (hx : ∀ t ∈ x, t.kind ≠ 0) (hol : os.length = k) (ho : ∀ o ∈ os, o.kind = 3) (hb : b'.length = b.length) (hb' : ∀ i (h : i < b.length) (h' : i < b'.length), b'[i].kind = b[i].kind ∧ b'[i].text = b[i].text) {ta tb : Nd} (ha : parseT (frT x k n) = (ta, 0, 0)) (hpb : parseT b = (tb, 0, 0)) :
    ∃ tc la lb, parseT (x ++ os ++ b') = (tc, 0, 0) ∧ tc.kids = la ++ lb ∧ NRs true ta.kids la ∧ NRs false tb.kids lb := by
  obtain ⟨la, ja, hga, rfl, hta⟩ := parseT_inv ha
  obtain ⟨lb, jb, hgb, rfl, htb⟩ := parseT_inv hpb
  have hja := frT_end hx hga
  obtain ⟨f3, _, f4⟩ := top_first hgb
  have hxo : (x ++ os).length = x.length + k := by rw [List.length_append, hol]
  have hnb : ∀ p, (nowT (x ++ os ++ b') (p + (x.length + k))).kind = (nowT b p).kind ∧ (nowT (x ++ os ++ b') (p + (x.length + k))).text = (nowT b p).text := fun p => by
    rcases Nat.lt_or_ge p b.length with g | g
    · have e1 : (x ++ os ++ b')[p + (x.length + k)]? = some b'[p] := by
        rw [List.getElem?_append_right (by rw [hxo]; omega), hxo, Nat.add_sub_cancel, List.getElem?_eq_getElem (by omega)]
      rw [nowT_some e1, nowT_some (List.getElem?_eq_getElem g)]
      exact hb' p g (by omega)
    · obtain ⟨a1, a2, _⟩ := nowT_end g
      obtain ⟨b1, b2, _⟩ := nowT_end (ts := x ++ os ++ b') (i := p + (x.length + k)) (by rw [List.length_append, hxo]; omega)
      exact ⟨b1.trans a1.symm, b2.trans a2.symm⟩
  have hi : ∀ s, isT (x ++ os ++ b') (x.length + k) s = isT b 0 s := fun s => by
    have := hnb 0
    rw [Nat.zero_add] at this
    unfold isT
    rw [this.1, this.2]
  have Ca : TA (frT x k n) (x ++ os ++ b') (x.length + k) (x.length + k + 1) 0 true := ⟨fun p hp => by
    rw [Nat.add_zero]
    rcases Nat.lt_or_ge p x.length with g | g
    · have e1 : (x ++ os ++ b')[p]? = some x[p] := by
        rw [List.append_assoc, List.getElem?_append_left g, List.getElem?_eq_getElem g]
      rw [nowT_some e1, frT_x g]
      exact ⟨rfl, fun _ => ⟨rfl, fun _ => rfl⟩⟩
    · have e1 : (x ++ os ++ b')[p]? = some (os[p - x.length]'(by omega)) := by
        rw [List.append_assoc, List.getElem?_append_right g, List.getElem?_append_left (by omega), List.getElem?_eq_getElem (by omega)]
      rw [nowT_some e1, frT_o g hp]
      exact ⟨ho _ (List.getElem_mem _), fun h => absurd rfl h⟩,
    .inr ⟨rfl, fun s hs => ⟨by rw [Nat.add_zero, hi]; exact f4 s hs, by
      unfold isT
      rw [frT_e]
      exact decide_eq_false (by rintro ⟨h | h, _⟩ <;> cases h)⟩, by rw [Nat.add_zero]; have := (hnb 0).1; rw [Nat.zero_add] at this; rw [this]; exact f3, by rw [frT_e]; exact (show ¬ ((0 : Int) = 3) by decide)⟩⟩
  have Cb : TA b (x ++ os ++ b') (jb + 1) (jb + 1) (x.length + k) false := ⟨fun p _ => ⟨(hnb p).1, fun _ => ⟨(hnb p).2, fun e => by cases e⟩⟩, .inl rfl⟩
  rw [hja] at hga
  obtain ⟨la', hla, hcon⟩ := top_pre Ca (fun p hp => frT_k hx hp) _ [] [] 0 _ hga .nil
  have h2 := top_rel Cb (b.length * 64 + 100) [] [] 0 (x.length + k) (by omega) fun _ => .nil
  rw [hgb] at h2
  obtain ⟨lb', hlb, hnlb⟩ := h2.2 (Nat.lt_succ_self _)
  have h3 := top_app la' _ _ _ _ _ hlb
  rw [List.append_nil] at h3
  obtain ⟨g', h4⟩ := hcon _ _ h3
  have hht : htL (la' ++ lb') + 1 ≤ 60 := by
    have e : ∀ a b : List Nd, htL (a ++ b) = max (htL a) (htL b) := fun a b => by
      induction a with
      | nil => simp [htL]
      | cons y a ih => simp only [List.cons_append, htL, ih]; omega
    rw [e, ← hla.ht, ← hnlb.ht]
    omega
  obtain ⟨tc, h5, h6⟩ := parseT_of h4 hht
  exact ⟨tc, la', lb', h5, h6, hla, hnlb⟩
end Can
end Go.Proofs.Ytnkfdkfmdeibfaa
end
section
namespace Go.Proofs.Ytnkfdkfmdeibfaa
namespace Can
open Go Go.RowKit
set_option linter.unusedSimpArgs false
set_option linter.unusedVariables false
set_option maxRecDepth 4000
theorem nsame_wp (ln : Bool) {K : CH} {A B : Nat → Prop} (hA : ∀ b, A b → b < K.nx) (hB : ∀ b, B b → b < K.nx) {a b : Nd} {os os' : List Value} (h : SVRs K A (ndS a) os) (h' : SVRs K B (ndS b) os') : WpF TL 9 [.agg os.toArray, .agg os'.toArray, .bool ln] K fun v K' => HExt K K' ∧ v = .bool (sameN ln a b) := by
  obtain ⟨k, l, x, o, ks⟩ := a
  obtain ⟨k', l', x', o', ks'⟩ := b
  obtain ⟨w, _, rfl, hw, hn⟩ := nd_inv (rest := []) (by simpa using h)
  cases hn
  obtain ⟨w', _, rfl, hw', hn⟩ := nd_inv (rest := []) (by simpa using h')
  cases hn
  have r1 := nd_rel hA (k := k) (l := l) (x := x) (o := o) hw
  have r2 := nd_rel hB (k := k') (l := l') (x := x') (o := o') hw'
  refine (tc_wp (X := pX) (same_tc ln (nsz (.mk k l x o ks) + 1) k l x o ks k' l' x' o' ks' (Nat.lt_succ_self _) (fun a _ => a = rS (.bool (sameN ln (.mk k l x o ks) (.mk k' l' x' o' ks')))) _ rfl) ?_).mono fun v K' ⟨h1, a, s', h2, h3⟩ => ⟨h1, by subst h3; exact raw_rel h2 rfl⟩
  cases r1 with | cons r1 _ =>
  cases r2 with | cons r2 _ =>
  exact .cons r1 (.cons r2 (.cons (rS_rel rfl) .nil))
theorem ndsS_all {ks : List Nd} : ∀ g ∈ ndsS ks, g.length = 5 := by
  induction ks with
  | nil => intro g hg; cases hg
  | cons n ks ih =>
    intro g hg
    rcases List.mem_cons.1 hg with rfl | hg
    · exact ndS_len
    · exact ih g hg
theorem svrs_grp {K : CH} {A : Nat → Prop} {ks : List Nd} {os : List Value} (h : SVRs K A (ndsS ks).flatten os) : os.length = ks.length * 5 ∧ ∀ i t, ks[i]? = some t → i * 5 + 5 ≤ os.length ∧ SVRs K A (ndS t) ((os.drop (i * 5)).take 5) := by
  have hl : os.length = ks.length * 5 := by rw [h.r2.len, flat_len' ndsS_all, ndsS_len]
  refine ⟨hl, fun i t ht => ?_⟩
  have h1 := flat_grp (ndsS_all (ks := ks)) (ndsS_get ht)
  rw [ndS_len] at h1
  have := (h.r2.drop (i * 5)).take 5
  rw [h1.1] at this
  exact ⟨by obtain ⟨hi, _⟩ := List.getElem?_eq_some_iff.1 ht; omega, this.svrs⟩
theorem row_at {K : CH} {A : Nat → Prop} {ks : List Nd} {w : Value} (h : SVR K A (.row 5 (ndsS ks)) w) : ∃ q, w = .slice q ks.length ks.length ∧ ks.length ≤ maxLen ∧ (ks = [] → q = none) ∧ ∀ i t, ks[i]? = some t → ∃ b cs e kd, q = some ⟨b, 0, none⟩ ∧ A b ∧ K.ob b = .cells cs e kd ∧ kd.isRo = false ∧ cs.length = ks.length * 5 ∧ i * 5 + 5 ≤ cs.length ∧ SVRs K A (ndS t) ((cs.drop (i * 5)).take 5) := by
  have hl : (ndsS ks).length = ks.length := ndsS_len
  generalize hg : ndsS ks = gs at h hl
  cases h with
  | row0 =>
    have : ks = [] := List.length_eq_zero_iff.1 (by simpa using hl.symm)
    subst this
    exact ⟨none, rfl, Nat.zero_le _, fun _ => rfl, fun i t h => by simp at h⟩
  | row hne hb ho hk hg' hs =>
    rw [hl]
    refine ⟨_, rfl, by rw [← hl]; exact hne.2, fun e => ?_, fun i t ht => ?_⟩
    · subst e; exact absurd (by rw [← hg]; rfl) hne.1
    · rw [← hg] at hs
      obtain ⟨h1, h2⟩ := svrs_grp hs
      exact ⟨_, _, _, _, rfl, hb, ho, hk, h1, (h2 i t ht).1, (h2 i t ht).2⟩
theorem nd_row {K : CH} {A : Nat → Prop} {t : Nd} {a1 a2 a4 : Int} {a3 : ByteArray} {aq : Option Addr} {an ac : Nat} (h : SVRs K A (ndS t) [.int .i64 a1, .int .i64 a2, .string a3, .int .i64 a4, .slice aq an ac]) : an = t.kids.length ∧ an ≤ maxLen ∧ ∀ i u, t.kids[i]? = some u → ∃ b cs e kd, aq = some ⟨b, 0, none⟩ ∧ A b ∧ K.ob b = .cells cs e kd ∧ cs.length = an * 5 ∧ i * 5 + 5 ≤ cs.length ∧ SVRs K A (ndS u) ((cs.drop (i * 5)).take 5) := by
  obtain ⟨k, l, x, o, ks⟩ := t
  obtain ⟨w, _, he, hw, hn⟩ := nd_inv (rest := []) (by simpa using h)
  cases hn
  obtain ⟨q, rfl, hml, hq0, hq⟩ := row_at hw
  cases he
  exact ⟨rfl, hml, fun i u hu => by
    obtain ⟨b, cs, e, kd, h1, h2, h3, _, h5, h6, h7⟩ := hq i u hu
    exact ⟨b, cs, e, kd, h1, h2, h3, h5, h6, h7⟩⟩
end Can
end Go.Proofs.Ytnkfdkfmdeibfaa
end
section
namespace Go.Proofs.Ytnkfdkfmdeibfaa
namespace Can
set_option linter.unusedSimpArgs false
set_option linter.unusedVariables false
theorem tokT_kind {l : List UInt8} {k n : Nat} {x : List UInt8} (h : tokT l = some (k, x, n)) : 4 ≤ k := by
  unfold tokT at h
  split at h
  · cases h; split <;> decide
  · split at h
    · split at h
      · cases h
      · cases h; unfold numK; split <;> decide
    · split at h
      · cases hs : strT (hd l) (l.drop 1) with
        | none => rw [hs] at h; cases h
        | some y => rw [hs] at h; cases h; decide
      · cases hs : symN l with
        | none => rw [hs] at h; cases h
        | some y => rw [hs] at h; cases h; decide
theorem toks_kind {line : Nat} : ∀ {f : Nat} {t : List UInt8} {d d' : Nat} {x : List Tok}, toks line f t d = some (x, d') → (∀ y ∈ x, 4 ≤ y.kind) ∧ (¬ t.length ≤ blkN t → x ≠ [])
  | 0, _, _, _, _, h => by cases h
  | f + 1, t, d, d', x, h => by
    simp only [toks] at h
    split at h
    · rename_i hb
      cases h
      exact ⟨fun y hy => (by cases hy), fun g => absurd hb g⟩
    · cases ht : tokT (t.drop (blkN t)) with
      | none => rw [ht] at h; cases h
      | some z =>
        obtain ⟨k, y, n⟩ := z
        rw [ht] at h
        simp only at h
        rw [Option.map_eq_some_iff] at h
        obtain ⟨⟨xs, e⟩, h1, h2⟩ := h
        cases h2
        have ih := (toks_kind h1).1
        refine ⟨fun y hy => ?_, fun _ g => by cases g⟩
        rcases List.mem_cons.1 hy with rfl | hy
        · exact tokT_kind ht
        · exact ih y hy
def StOk (st : List Nat) : Prop := ∃ u, st = u ++ [0] ∧ ∀ x ∈ u, 0 < x
theorem StOk.init : StOk [0] := ⟨[], rfl, fun x hx => by cases hx⟩
theorem StOk.ind {line n : Nat} {st : List Nat} (h : StOk st) : StOk (indT line st n).2 := by
  obtain ⟨u, rfl, hu⟩ := h
  unfold indT
  split
  · rename_i hn
    exact ⟨n :: u, rfl, fun x hx => by
      rcases List.mem_cons.1 hx with rfl | hx
      · omega
      · exact hu x hx⟩
  · show StOk (List.dropWhile _ _)
    rename_i hn
    clear hn
    induction u with
    | nil => exact ⟨[], rfl, hu⟩
    | cons a u ih =>
      rw [List.cons_append, List.dropWhile_cons]
      split
      · exact ih fun x hx => hu x (by simp [hx])
      · exact ⟨a :: u, rfl, hu⟩
theorem StOk.pop {line : Nat} {st : List Nat} (h : StOk st) : indT line st 0 = (List.replicate (st.length - 1) ⟨3, line, []⟩, [0]) := by
  obtain ⟨u, rfl, hu⟩ := h
  unfold indT
  rw [if_neg (by omega)]
  have h1 : (u ++ [0]).takeWhile (fun x => decide (0 < x)) = u := by
    rw [List.takeWhile_append_of_pos (by intro x hx; simpa using hu x hx)]
    simp
  have h2 : (u ++ [0]).dropWhile (fun x => decide (0 < x)) = [0] := by
    rw [List.dropWhile_append_of_pos (by intro x hx; simpa using hu x hx)]
    simp
  rw [h1, h2]
  simp
def rowsD : Nat → List (List UInt8) → Nat → List Nat → Except (Nat × Nat) (List Tok × Nat × List Nat)
  | _, [], d, st => .ok ([], d, st)
  | line, t :: ts, d, st => match rowT line t d st with
    | .error e => .error (line, e)
    | .ok (x, d', st') => match rowsD (line + 1) ts d' st' with
      | .error e => .error e
      | .ok (y, z) => .ok (x ++ y, z)
theorem rowsT_app : ∀ {A B : List (List UInt8)} {line d : Nat} {st : List Nat}, rowsT line (A ++ B) d st = match rowsD line A d st with
    | .error e => .error e
    | .ok (x, d', st') => mp2 x (rowsT (line + A.length) B d' st')
  | [], B, line, d, st => by
    simp only [List.nil_append, rowsD, List.length_nil, Nat.add_zero]
    cases rowsT line B d st <;> rfl
  | t :: A, B, line, d, st => by
    rw [List.cons_append, rowsT_cons]
    simp only [rowsD]
    cases hr : rowT line t d st with
    | error e => rfl
    | ok y =>
      obtain ⟨x, d', st'⟩ := y
      simp only
      rw [rowsT_app (A := A)]
      cases rowsD (line + 1) A d' st' with
      | error e => rfl
      | ok z =>
        obtain ⟨z1, z2, z3⟩ := z
        simp only [List.length_cons]
        rw [mp2_mp2, show line + 1 + A.length = line + (A.length + 1) by omega]
theorem rowT_end {line d d' : Nat} {t : List UInt8} {st st' : List Nat} {x : List Tok} (h : rowT line t d st = .ok (x, d', st')) (hs : StOk st) : StOk st' ∧ ((x = [] ∧ d' = d) ∨ ∃ x0 z, x = x0 ++ [z] ∧ (d' = 0 → z.kind = 1) ∧ (d' ≠ 0 → 4 ≤ z.kind)) := by
  unfold rowT at h
  split at h
  · cases h; exact ⟨hs, .inl ⟨rfl, rfl⟩⟩
  · rename_i hb
    split at h
    · cases h
    · split at h
      · cases h
      · rename_i ts d1 ht
        obtain ⟨k1, k2⟩ := toks_kind ht
        have hne := k2 hb
        cases h
        refine ⟨by
          split
          · exact hs.ind
          · exact hs, .inr ?_⟩
        by_cases h0 : d' = 0
        · rw [if_pos h0]
          exact ⟨_, _, rfl, fun _ => rfl, fun g => absurd h0 g⟩
        · rw [if_neg h0, List.append_nil]
          refine ⟨(if d = 0 then (indT line st (blkN t)).1 else []) ++ ts.dropLast, ts.getLast hne, ?_, fun g => absurd g h0, fun _ => k1 _ (List.getLast_mem hne)⟩
          rw [List.append_assoc, List.dropLast_concat_getLast hne]
theorem rowsD_end : ∀ {ts : List (List UInt8)} {line d d' : Nat} {st st' : List Nat} {x : List Tok}, rowsD line ts d st = .ok (x, d', st') → StOk st → StOk st' ∧ ((x = [] ∧ d' = d) ∨ ∃ x0 z, x = x0 ++ [z] ∧ (d' = 0 → z.kind = 1) ∧ (d' ≠ 0 → 4 ≤ z.kind))
  | [], line, d, d', st, st', x, h, hs => by cases h; exact ⟨hs, .inl ⟨rfl, rfl⟩⟩
  | t :: ts, line, d, d', st, st', x, h, hs => by
    simp only [rowsD] at h
    cases hr : rowT line t d st with
    | error e => rw [hr] at h; cases h
    | ok y =>
      obtain ⟨x1, d1, st1⟩ := y
      rw [hr] at h
      simp only at h
      cases hq : rowsD (line + 1) ts d1 st1 with
      | error e => rw [hq] at h; cases h
      | ok z =>
        obtain ⟨x2, d2, st2⟩ := z
        rw [hq] at h
        cases h
        obtain ⟨g1, g2⟩ := rowT_end hr hs
        obtain ⟨g3, g4⟩ := rowsD_end hq g1
        refine ⟨g3, ?_⟩
        rcases g4 with ⟨rfl, rfl⟩ | ⟨x0, z, rfl, g5⟩
        · rw [List.append_nil]; exact g2
        · exact .inr ⟨x1 ++ x0, z, by rw [List.append_assoc], g5⟩
theorem rows_join {R : Nat} {st st2 : List Nat} (hs : StOk st) : ∀ {ts : List (List UInt8)} {line : Nat} {y : List Tok}, rowsT line ts 0 [0] = .ok (y, st2) → (∀ z ∈ y.head?, z.kind ≠ 2) → ∃ z st3 os, rowsT line ts 0 st = .ok (z, st3) ∧ z ++ endT R st3 = os ++ (y ++ endT R st2) ∧ os.length = st.length - 1 ∧ ∀ o ∈ os, o.kind = 3
  | [], line, y, h, hy => by
    cases h
    exact ⟨[], st, List.replicate (st.length - 1) ⟨3, R, []⟩, rfl, by simp [endT], by simp, fun o ho => by rw [List.eq_of_mem_replicate ho]⟩
  | t :: ts, line, y, h, hy => by
    by_cases hb : t.length ≤ blkN t
    · rw [rows_blank hb] at h
      obtain ⟨z, st3, os, h1, h2⟩ := rows_join hs h hy
      exact ⟨z, st3, os, by rw [rows_blank hb]; exact h1, h2⟩
    · rw [rowsT_cons] at h
      cases hr : rowT line t 0 [0] with
      | error e => rw [hr] at h; cases h
      | ok q =>
        obtain ⟨x1, d1, st1⟩ := q
        rw [hr] at h
        simp only at h
        cases hq : rowsT (line + 1) ts d1 st1 with
        | error e => rw [hq] at h; cases h
        | ok w =>
          obtain ⟨y2, st4⟩ := w
          rw [hq] at h
          simp only [mp2, Except.ok.injEq, Prod.mk.injEq] at h
          obtain ⟨rfl, rfl⟩ := h
          by_cases h0 : 0 < blkN t
          · have hi : indT line [0] (blkN t) = ([⟨2, line, []⟩], [blkN t, 0]) := by unfold indT; rw [if_pos (show [0].headD 0 < blkN t from h0)]
            unfold rowT at hr
            rw [if_neg hb, hi, if_neg (by simp)] at hr
            split at hr
            · cases hr
            · cases hr
              exact absurd rfl (hy ⟨2, line, []⟩ (by simp))
          · have hz : blkN t = 0 := by omega
            have hi : indT line [0] (blkN t) = ([], [0]) := by rw [hz]; exact StOk.init.pop
            have hi2 : indT line st (blkN t) = (List.replicate (st.length - 1) ⟨3, line, []⟩, [0]) := by rw [hz]; exact hs.pop
            have hr2 : rowT line t 0 st = .ok (List.replicate (st.length - 1) ⟨3, line, []⟩ ++ x1, d1, st1) := by
              unfold rowT at hr ⊢
              rw [if_neg hb, hi, if_neg (by simp [hz])] at hr
              rw [if_neg hb, hi2, if_neg (by simp [hz])]
              split at hr
              · cases hr
              · cases hr
                simp
            refine ⟨List.replicate (st.length - 1) ⟨3, line, []⟩ ++ x1 ++ y2, st4, List.replicate (st.length - 1) ⟨3, line, []⟩, ?_, ?_, by simp, fun o ho => by rw [List.eq_of_mem_replicate ho]⟩
            · rw [rowsT_cons, hr2]
              simp only
              rw [hq]; rfl
            · simp only [List.append_assoc]
theorem lex_join {src more : List UInt8} {a b : List Tok} (ha : lexT (src ++ [10]) = .ok a) (hb : lexT more = .ok b) (hl : src.length + 1 + more.length ≤ 20000) (h2 : ∀ z ∈ b.head?, z.kind ≠ 2) :
    ∃ n x k, a = x ++ (List.replicate k ⟨3, n + 1, []⟩ ++ [⟨0, n + 1, []⟩]) ∧ n ≤ 20000 ∧ ((x ≠ [] ∧ ∃ x0 z, x = x0 ++ [z] ∧ z.kind ≠ 1 ∧ z.kind ≠ 3) ∨
      ((x = [] ∨ ∃ x0 z, x = x0 ++ [z] ∧ z.kind = 1) ∧ ∃ os, os.length = k ∧ (∀ o ∈ os, o.kind = 3) ∧ lexT (src ++ [10] ++ more) = .ok (x ++ os ++ b.map (shT n)))) := by
  have hn : (splitN src).length ≤ 20000 := by
    have := splitN_sum (src := src)
    omega
  have e10 : (src ++ [10] : List UInt8) = src ++ UInt8.ofNat 10 :: [] := rfl
  unfold lexT at ha hb
  rw [if_neg (by simp; omega), e10, split_app, rowsT_app] at ha
  rw [if_neg (by omega)] at hb
  cases hD : rowsD 1 (splitN src) 0 [0] with
  | error e => rw [hD] at ha; cases ha
  | ok q =>
    obtain ⟨x, d, st⟩ := q
    rw [hD] at ha
    simp only at ha
    rw [show splitN [] = [[]] from rfl, rows_blank (t := []) (show 0 ≤ _ from Nat.zero_le _)] at ha
    simp only [rowsT, mp2, List.append_nil, List.length_append, List.length_singleton] at ha
    cases ha
    obtain ⟨hs, hx⟩ := rowsD_end hD StOk.init
    refine ⟨(splitN src).length, x, st.length - 1, rfl, hn, ?_⟩
    cases hr : rowsT 1 (splitN more) 0 [0] with
    | error e => rw [hr] at hb; cases hb
    | ok q =>
      obtain ⟨y, st2⟩ := q
      rw [hr] at hb
      cases hb
      have hy : ∀ z ∈ y.head?, z.kind ≠ 2 := by
        cases y with
        | nil => intro z hz; cases hz
        | cons c r => exact h2
      have main : d = 0 → ∃ os : List Tok, os.length = st.length - 1 ∧ (∀ o ∈ os, o.kind = 3) ∧ lexT (src ++ [10] ++ more) = .ok (x ++ os ++ (y ++ endT (splitN more).length st2).map (shT (splitN src).length)) := fun h0 => by
        subst h0
        have hsh : rowsT (1 + (splitN src).length) (splitN more) 0 [0] = .ok (y.map (shT (splitN src).length), st2) := by rw [rowsT_sh, hr]; rfl
        obtain ⟨z, st3, os, g1, g2, g3, g4⟩ := rows_join (R := (splitN more).length + (splitN src).length) hs hsh (by
          cases y with
          | nil => intro z hz; cases hz
          | cons c r => intro z hz; simp only [List.map_cons, List.head?_cons, Option.mem_def, Option.some.injEq] at hz; subst hz; exact hy c (by simp))
        refine ⟨os, g3, g4, ?_⟩
        unfold lexT
        rw [if_neg (by simp; omega), show (src ++ [10] ++ more : List UInt8) = src ++ UInt8.ofNat 10 :: more by rw [List.append_assoc]; rfl, split_app, rowsT_app, hD]
        simp only
        rw [g1]
        simp only [mp2, List.length_append]
        rw [Nat.add_comm (splitN src).length, List.append_assoc, g2, List.map_append, endT_sh, List.append_assoc]
      by_cases h0 : d = 0
      · refine .inr ⟨?_, main h0⟩
        rcases hx with ⟨hx, _⟩ | ⟨x0, z, hx, g1, _⟩
        · exact .inl hx
        · exact .inr ⟨x0, z, hx, g1 h0⟩
      · rcases hx with ⟨_, hx⟩ | ⟨x0, z, hx, _, g2⟩
        · exact absurd hx h0
        · have := g2 h0
          exact .inl ⟨by rw [hx]; simp, x0, z, hx, by omega, by omega⟩
end Can
end Go.Proofs.Ytnkfdkfmdeibfaa
end
