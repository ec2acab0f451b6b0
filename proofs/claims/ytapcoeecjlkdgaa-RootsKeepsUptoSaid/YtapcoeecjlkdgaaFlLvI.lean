/- Flow: Live of the program. -/
import Derived.Test.YtapcoeecjlkdgaaFlLvR
namespace Go.Proofs.Ytapcoeecjlkdgaa
namespace Can
open Go Go.RowKit
set_option linter.unusedSimpArgs false
set_option linter.unusedVariables false
set_option maxRecDepth 4000
def ClM (F : Fn') (mm : List (List Nat)) (a : Nat) : Prop := ∀ p ∈ waysF F a, ∀ r : Nat, bitM mm p.1.toNat r = true → (r : Int) ∉ p.2 → bitM mm a r = true
/-- From a round's beginning to here. -/
structure Go' (F : Fn') (mm0 : List (List Nat)) (mm : List (List Nat)) (ch : Bool) : Prop where
  snd : ∀ j r, bitM mm j r = true → Lv F j r
  mono : ∀ j r, bitM mm0 j r = true → bitM mm j r = true
  tle : tot mm0 ≤ tot mm
  ch1 : ch = true → tot mm0 < tot mm
  ch2 : ch = false → mm = mm0
theorem set_same {mm : List (List Nat)} {a : Nat} (h : a < mm.length) : mm.set a (mm.getD a []) = mm := by
  apply List.ext_getElem (by simp)
  intro i h1 h2
  rw [List.getElem_set]
  split
  · rename_i e; subst e; simp [List.getD, List.getElem?_eq_getElem h2]
  · rfl
theorem Go'.step {F : Fn'} {mm0 mm : List (List Nat)} {ch ch' : Bool} (h : Go' F mm0 mm ch) {a : Nat} (ha : a < mm.length) {p : Int × List Int} (hp : p ∈ waysF F a) {us : List Nat} (hb : ∀ r, bitW us r = (bitM mm a r || (bitM mm p.1.toNat r && !decide ((r : Int) ∈ p.2))))
    (hs : (mm.getD a []).sum ≤ us.sum) (h1 : ch' = true → ch = true ∨ (mm.getD a []).sum < us.sum) (h2 : ch' = false → ch = false ∧ us = mm.getD a []) :
    Go' F mm0 (mm.set a us) ch' ∧ (ch' = false → ch = false ∧ ∀ r : Nat, bitM mm0 p.1.toNat r = true → (r : Int) ∉ p.2 → bitM mm0 a r = true) := by
  have ht := tot_set (mm := mm) (i := a) (ws := us) ha
  have h3 : ch' = false → mm.set a us = mm0 := fun e => by
    obtain ⟨e1, e2⟩ := h2 e
    rw [e2, set_same ha]
    exact h.ch2 e1
  refine ⟨⟨fun j r hj => ?_, fun j r hj => ?_, ?_, fun e => ?_, h3⟩, fun e => ?_⟩
  · rw [bitM_set ha] at hj
    split at hj
    · rename_i e
      subst e
      rw [hb] at hj
      simp only [Bool.or_eq_true, Bool.and_eq_true, Bool.not_eq_true', decide_eq_false_iff_not] at hj
      rcases hj with hj | ⟨hj, hn⟩
      · exact h.snd _ _ hj
      · exact .step hp (h.snd _ _ hj) hn
    · exact h.snd _ _ hj
  · have := h.mono j r hj
    rw [bitM_set ha]
    split
    · rename_i e; subst e; rw [hb, this]; rfl
    · exact this
  · have := h.tle; omega
  · have := h.tle
    rcases h1 e with e1 | e1
    · have := h.ch1 e1; omega
    · omega
  · obtain ⟨e1, e2⟩ := h2 e
    refine ⟨e1, fun r hr hn => ?_⟩
    have := h.ch2 e1
    subst this
    have h4 := hb r
    rw [hr] at h4
    have h5 : bitM mm a r = bitW us r := by rw [e2]; rfl
    rw [h5, h4]
    simp [hn]
theorem live_range {K1 K0 : CH} {F : Fn'} {A : FnA} {W : Nat} {rows : List Nat} {mm0 mm : List (List Nat)} {tr cc ac pa pf l x : Nat} {th : List Nat} {ch : Bool} {fr : Fr} (hl : l = K0.nx) (hF : FnOk K1 F A) (hsd : soundF F = true) (hx : x < F.ins.length) (hW : W = (F.regs.toNat + 63) / 64)
    (hR : LS K1 F.ins.length W rows mm K0) (hT : LT tr cc th ch W K0) (hG : Go' F mm0 mm ch) (hac : K0.ob ac = .cells [.int .i64 x] 3 .ex)
    (hn : rows.length = F.ins.length) (hlo : ∀ x ∈ rows, x < tr) (htr : K1.nx + 2 ≤ tr) (hcc : tr + 1 < cc) (hca : cc < ac) (hal : ac < K0.nx)
    (hpa : K0.ob pa = .cells [.int .i64 x] 3 .ex) (hpf : K0.ob pf = .cells (fnC F A) 27 .ex) (hla : pa < K0.nx) (hlf : pf < K0.nx) (hga : cc < pa) (hgf : cc < pf)
    (f5 : fr 5 = .pointer (some ⟨K1.nx + 1, 0, none⟩)) (f10 : fr 10 = .pointer (some ⟨tr + 1, 0, none⟩)) (f11 : fr 11 = .pointer (some ⟨cc, 0, none⟩)) (f12 : fr 12 = .pointer (some ⟨ac, 0, none⟩)) :
    WpF (tblG Try.prog LG GG) 42 [.func (.yield l) #[] #[], .pointer (some ⟨pa, 0, none⟩), .pointer (some ⟨pf, 0, none⟩)] (K0.new (.loop .ready none fr (24, 0))) fun _ K =>
      ∃ mm' th' ch', LS K1 F.ins.length W rows mm' K ∧ LT tr cc th' ch' W K ∧ Go' F mm0 mm' ch' ∧ K.ob K0.nx = .loop .ready none fr (24, 0) ∧ K.ob ac = .cells [.int .i64 x] 3 .ex ∧ K0.nx + 1 ≤ K.nx ∧ (ch' = false → ch = false ∧ ClM F mm0 x) := by
  subst hl
  have hli := hF.lins
  rw [reach_eq] at hli
  have hnx := hR.nx
  have hreg : F.regs ≤ 65536 ∧ 0 ≤ F.regs := by
    simp only [soundF, headF, Bool.and_eq_true, decide_eq_true_eq] at hsd
    exact ⟨hsd.1.2.1, hsd.1.1⟩
  have hlK : ∀ y ∈ rows, K1.nx + 2 ≤ y ∧ y < K0.nx := hR.lo
  refine (ways_it (A0 := K1) (H := K0.new (.loop .ready none fr (24, 0))) (l := K0.nx) (a := (x : Int)) hF (by unfold i64r; omega) (hR.ext.new _) (S := fun y => y = K0.nx ∨ y = tr ∨ y = cc ∨ y ∈ rows) (fun y hy => ?_) (fun y hy => ?_) ?_ ?_ ?_ ?_ (by show pa < K0.nx + 1; omega) (by show pf < K0.nx + 1; omega)
    (fun k O K => ∃ mm' th' ch', LS K1 F.ins.length W rows mm' K ∧ LT tr cc th' ch' W K ∧ Go' F mm0 mm' ch' ∧ K.ob K0.nx = .loop .ready none fr (24, 0) ∧ K0.nx + 1 ≤ K.nx ∧ K.ob ac = .cells [.int .i64 x] 3 .ex ∧ (ch' = false → ch = false ∧ ∀ i p, i < k → (waysF F x)[i]? = some p → ∀ r : Nat, bitM mm0 p.1.toNat r = true → (r : Int) ∉ p.2 → bitM mm0 x r = true) ∧ ∀ y, O y ↔ (y = K0.nx ∨ y = tr ∨ y = cc ∨ y ∈ rows))
    ?_ ?_ ?_).mono ?_
  · rcases hy with h | h | h | h
    · omega
    · omega
    · omega
    · have := hlK y h; omega
  · show y < K0.nx + 1
    rcases hy with h | h | h | h
    · omega
    · omega
    · omega
    · have := hlK y h; omega
  · rintro (h | h | h | h)
    · omega
    · omega
    · omega
    · have := hlo _ h; omega
  · rintro (h | h | h | h)
    · omega
    · omega
    · omega
    · have := hlo _ h; omega
  · rw [new_get, if_neg (by omega)]; exact hpa
  · rw [new_get, if_neg (by omega)]; exact hpf
  · rintro k O K K' ⟨mm', th', ch', i1, i2, i3, i4, i5, i6, i7, i8⟩ hx
    exact ⟨mm', th', ch', i1.mv hx.nx fun y hy _ => hx.ob y hy, ⟨(hx.ob _ (by omega)).trans i2.tc, (hx.ob _ (by omega)).trans i2.tr, i2.len, i2.w64, (hx.ob _ (by omega)).trans i2.cc⟩, i3, (hx.ob _ (by omega)).trans i4, Nat.le_trans i5 hx.nx, (hx.ob _ (by omega)).trans i6, i7, i8⟩
  · have ho : ∀ y, y ≠ K0.nx → (K0.new (.loop .ready none fr (24, 0))).ob y = K0.ob y := fun y hy => by rw [new_get, if_neg hy]
    exact ⟨mm, th, ch, hR.mv (Nat.le_succ _) fun y hy _ => ho y (by omega), ⟨(ho _ (by omega)).trans hT.tc, (ho _ (by omega)).trans hT.tr, hT.len, hT.w64, (ho _ (by omega)).trans hT.cc⟩, hG, by rw [new_get, if_pos rfl], Nat.le_refl _, (ho _ (by omega)).trans hac, fun h => ⟨h, fun i p hi => absurd hi (Nat.not_lt_zero _)⟩, fun y => Iff.rfl⟩
  · rintro k t ws hk O K q c hSK hOK ⟨mm', th', ch', i1, i2, i3, i4, i5, i6, i7, i8⟩ hsl
    have hpm : (t, ws) ∈ waysF F x := List.mem_of_getElem? hk
    have htr' := ways_in hsd hpm
    simp only at htr'
    have hml : x < mm'.length := by rw [← i1.len, hn]; exact hx
    refine (live_round i1 i2 i6 hn (by omega) (by omega) hlo htr hcc hca hal (by omega) hx i4 f5 f10 f11 f12 htr' hsl (fun r hr => ?_)).mono fun u K' ⟨hu, us, th2, ch2, j1, j2, j3, j4, j5, j6, j7, j8⟩ => ?_
    · have := ways_ws hsd hpm hr
      omega
    · obtain ⟨g1, g2⟩ := i3.step hml hpm j5 j6 j7 j8
      refine ⟨hu, O, ⟨mm'.set x us, th2, ch2, j1, j2, g1, j3, Nat.le_trans i5 j4.nx, ?_, fun e => ?_, i8⟩, ⟨j4.nx, fun y hy hne => j4.ob y hy fun h => hne ((i8 y).2 h)⟩, fun y hy => .inl hy⟩
      · rw [j4.ob ac (by omega) (by
          rintro (h | h | h | h)
          · omega
          · omega
          · omega
          · have := hlo _ h; omega)]
        exact i6
      · obtain ⟨e1, e2⟩ := g2 e
        obtain ⟨e3, e4⟩ := i7 e1
        refine ⟨e3, fun i p hi hp => ?_⟩
        by_cases hik : i = k
        · subst hik
          rw [hk] at hp
          cases hp
          exact e2
        · exact e4 i p (by omega) hp
  · rintro u K ⟨hSK, O, ⟨mm', th', ch', i1, i2, i3, i4, i5, i6, i7, i8⟩, hO⟩
    refine ⟨mm', th', ch', i1, i2, i3, i4, i6, i5, fun e => ⟨(i7 e).1, fun p hp => ?_⟩⟩
    obtain ⟨i, hi, rfl⟩ := List.getElem_of_mem hp
    exact (i7 e).2 i _ hi (by simp [hi])
end Can
end Go.Proofs.Ytapcoeecjlkdgaa
