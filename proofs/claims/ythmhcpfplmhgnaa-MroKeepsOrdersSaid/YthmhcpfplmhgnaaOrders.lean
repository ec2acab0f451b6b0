/- The reference's Orders: the table of all orders, each in a row of its own. -/
import Derived.Test.YthmhcpfplmhgnaaAnswer
import Derived.Test.YthmhcpfplmhgnaaMergeR
namespace Go.Proofs.Ythmhcpfplmhgnaa
open Go.ChangeShapes Go.WideShapes Go.ChangeAt Go.RowKit
set_option linter.unusedSimpArgs false
set_option linter.unusedVariables false

/-- A cell that stands for the order of class i: nil, or a list in a row of its own. -/
def Ent (bs : List (List Int)) (Z : Nat → Prop) (base : Nat) (w : World) (i : Nat) (val : Value) : Prop :=
  (ordF bs i = none ∧ val = .slice none 0 0) ∨ ∃ l, ordF bs i = some l ∧ l ≠ [] ∧ OwnInts Z base w val l
theorem Ent.keep {bs : List (List Int)} {Z : Nat → Prop} {base i : Nat} {w w' : World} {val : Value} {row : Option Nat} (h : Ent bs Z base w i val) (hg : Grow row w w') (hr : ∀ j, row = some j → Z j ∨ w.heap.size ≤ j) : Ent bs Z base w' i val :=
  h.imp id fun ⟨l, h1, h2, h3⟩ => ⟨l, h1, h2, h3.keep hg hr⟩
theorem Ent.avoid {bs : List (List Int)} {Z Y : Nat → Prop} {base i : Nat} {w : World} {val : Value} (h : Ent bs Z base w i val) (hY : ∀ b, b < w.heap.size → Y b → Z b) : Ent bs Y base w i val :=
  h.imp id fun ⟨l, h1, h2, h3⟩ => ⟨l, h1, h2, h3.avoid hY⟩
/-- A row of its own of such cells. -/
def Ents (bs : List (List Int)) (Z : Nat → Prop) (base : Nat) (w : World) (v : Value) (n : Nat) (f : Nat → Nat) : Prop :=
  ∃ cs : List Value, w.ownsRow base 24 1 v n cs ∧ ∀ i (h : i < cs.length), Ent bs Z base w (f i) cs[i]
theorem Ents.keep {bs : List (List Int)} {Z : Nat → Prop} {base n : Nat} {f : Nat → Nat} {w w' : World} {v : Value} {row : Option Nat} (h : Ents bs Z base w v n f) (hg : Grow row w w') (hr : ∀ j, row = some j → (Z j ∧ v.ownBlock ≠ some j) ∨ w.heap.size ≤ j) : Ents bs Z base w' v n f := by
  obtain ⟨cs, h1, h2⟩ := h
  refine ⟨cs, h1.kept hg ?_, fun i hi => (h2 i hi).keep hg fun j e => (hr j e).imp And.left id⟩
  cases hv : v.ownBlock with
  | none => exact .inl rfl
  | some k => exact .inr (fun e => by
      rcases hr k e.symm with h' | h'
      · exact h'.2 hv
      · have := (h1.lt k hv).2; omega)
theorem Ents.avoid {bs : List (List Int)} {Z Y : Nat → Prop} {base n : Nat} {f : Nat → Nat} {w : World} {v : Value} (h : Ents bs Z base w v n f) (hY : ∀ b, b < w.heap.size → Y b → Z b) : Ents bs Y base w v n f := by
  obtain ⟨cs, h1, h2⟩ := h
  exact ⟨cs, h1, fun i hi => (h2 i hi).avoid hY⟩
theorem Ents.lv {bs : List (List Int)} {Z : Nat → Prop} {base n : Nat} {f : Nat → Nat} {w : World} {v : Value} (h : Ents bs Z base w v n f) : ∀ b, v.ownBlock = some b → base ≤ b ∧ b < w.heap.size := by
  obtain ⟨cs, h1, _⟩ := h; exact fun b hb => h1.lt b hb
theorem Ents.at {bs : List (List Int)} {Z : Nat → Prop} {base n : Nat} {f : Nat → Nat} {w : World} {v : Value} (h : Ents bs Z base w v n f) (i : Nat) (hi : i < n) :
    ∃ g cap val, v = .slice (some ⟨g, 0, none⟩) n cap ∧ w.cell? ⟨g, i, none⟩ = some val ∧ Ent bs Z base w (f i) val := by
  obtain ⟨cs, h1, h2⟩ := h
  obtain ⟨g, cap, hv, _, _, _, _, _, hc, hcell⟩ := own_cell h1 i hi
  exact ⟨g, cap, _, hv, hcell, h2 i hc⟩
theorem Ents.nil (bs : List (List Int)) (Z : Nat → Prop) (base : Nat) (w : World) (f : Nat → Nat) : Ents bs Z base w (.slice none 0 0) 0 f := ⟨[], World.ownsRow_nil _ _ _ _, fun i h => absurd h (Nat.not_lt_zero _)⟩
/-- One more: behind the append. -/
theorem Ents.push {bs : List (List Int)} {Z : Nat → Prop} {base n : Nat} {f : Nat → Nat} {w1 w2 : World} {v v' val : Value} {cs : List Value} {o : Obj} (h2 : ∀ i (h : i < cs.length), Ent bs Z base w1 (f i) cs[i]) (hlen : cs.length = n)
    (hval : Ent bs Z base w1 (f n) val) (hZ : ∀ j, v.ownBlock = some j → Z j) (hown : w2.ownsRow base 24 1 v' (n + 1) (cs ++ [val])) (hg : Grow v.ownBlock (w1.alloc o) w2) (hb : v'.ownBlock = v.ownBlock ∨ v'.ownBlock = some (w1.alloc o).heap.size) :
    Ents bs (fun b => Z b ∨ v'.ownBlock = some b) base w2 v' (n + 1) f := by
  have hg12 : Grow v.ownBlock w1 w2 := ((Grow.refl v.ownBlock w1).alloc o).trans hg (fun j e => .inl e)
  have lift : ∀ {i : Nat} {u : Value}, Ent bs Z base w1 i u → Ent bs (fun b => Z b ∨ v'.ownBlock = some b) base w2 i u := fun h => by
    have h1 : Ent bs (fun b => Z b ∨ v'.ownBlock = some b) base w1 _ _ := h.avoid fun b hb1 hb2 => by
      rcases hb2 with hb2 | hb2
      · exact hb2
      · rcases hb with e | e
        · exact hZ b (e.symm.trans hb2)
        · rw [e] at hb2; simp only [Option.some.injEq] at hb2; simp at hb2; omega
    exact h1.keep hg12 fun j e => .inl (.inl (hZ j e))
  refine ⟨cs ++ [val], hown, fun i hi => ?_⟩
  by_cases hin : i < n
  · rw [List.getElem_append_left (by omega)]; exact lift (h2 i (by omega))
  · have hi' : i = n := by simp at hi; omega
    subst hi'
    have e0 : (cs ++ [val])[i]'hi = val := by rw [List.getElem_append_right (by omega)]; simp [hlen]
    rw [e0]; exact lift hval

/-- Every base so far has an order. -/
def goodF (bs : List (List Int)) (row : List Int) (k : Nat) : Bool := (row.take k).all fun b => (ordF bs b.toNat).isSome
theorem goodF_succ (bs : List (List Int)) (row : List Int) (k : Nat) (h : k < row.length) : goodF bs row (k + 1) = (goodF bs row k && (ordF bs row[k].toNat).isSome) := by
  unfold goodF; rw [List.take_succ_eq_append_getElem h, List.all_append]; simp
theorem goodF_false {bs : List (List Int)} {row : List Int} (h : goodF bs row row.length = false) : rowsF (ordF bs) row = none := by
  unfold goodF at h
  rw [List.take_length] at h
  obtain ⟨b, hb, hn⟩ := List.all_eq_false.1 h
  obtain ⟨i, hi, rfl⟩ := List.getElem_of_mem hb
  exact rowsF_none i hi (by simpa using hn)
theorem goodF_true {bs : List (List Int)} {row : List Int} (h : goodF bs row row.length = true) : ∃ ls, rowsF (ordF bs) row = some ls := by
  unfold goodF at h
  rw [List.take_length] at h
  have h' := List.all_eq_true.1 h
  clear h
  induction row with
  | nil => exact ⟨[], rfl⟩
  | cons b r ih =>
    obtain ⟨ls, hls⟩ := ih (fun x hx => h' x (List.mem_cons_of_mem _ hx))
    have hb := h' b (by simp)
    cases ho : ordF bs b.toNat with
    | none => rw [ho] at hb; cases hb
    | some l => exact ⟨l :: ls, by simp [rowsF, ho, hls]⟩
theorem Ent.nil_iff {bs : List (List Int)} {Z : Nat → Prop} {base i : Nat} {w : World} {val : Value} (h : Ent bs Z base w i val) :
    ∃ a n cap, val = .slice a n cap ∧ (!a.isNone) = (ordF bs i).isSome := by
  rcases h with ⟨h1, rfl⟩ | ⟨l, h1, h2, h3⟩
  · exact ⟨none, 0, 0, rfl, by rw [h1]; rfl⟩
  · obtain ⟨ad, cap, rfl⟩ := h3.reads.notNil h2
    exact ⟨some ad, _, cap, rfl, by rw [h1]; rfl⟩

set_option maxHeartbeats 1600000 in
set_option maxRecDepth 100000 in
theorem orders_any (S : Nat → Prop) (v : Value) (bs : List (List Int)) (w : World) (h : RRows S w [v] bs) (hS : ∀ b, S b → b < w.heap.size) (hf : Fits bs) (h200 : bs.length ≤ 200) :
    Calls Try.prog 17 #[v] w fun e w' => ∃ u, e = .returned u ∧ Ents bs (fun b => u.ownBlock = some b) w.heap.size w' u bs.length id ∧ Below w.heap.size w w' := by
  obtain ⟨a, cap, rfl, hcap, hmax⟩ := h.form
  unfold maxLen at hmax
  go_enter Try.func17, Try.ntmps17
  go_wp2
  go_loopg [3, 4] bs.length (fun g u i wr => ∃ c : Nat, c + g = bs.length ∧ i = .int .i64 c ∧ Ents bs (fun b => u.ownBlock = some b) w.heap.size wr u c id ∧ Below w.heap.size w wr)
  case atStart => exact ⟨0, by omega, rfl, Ents.nil _ _ _ _ _, Below.refl _ _⟩
  case round =>
    obtain ⟨c, hc, rfl, hE, hB⟩ := hrel
    cases gk with
    | zero =>
      have hcz : ¬ ((c : Int) < (bs.length : Int)) := by omega
      go_wp2
      go_ret
      obtain rfl : c = bs.length := by omega
      exact ⟨_, rfl, hE, hB⟩
    | succ g =>
      have hcz : (c : Int) < (bs.length : Int) := by omega
      have hcb : c < bs.length := by omega
      obtain ⟨b, o, hb, rfl, hx, u, hu, hcell⟩ := h.get1 c hcb
      obtain ⟨a', cap', rfl, hcap', hmax'⟩ := hu.form
      unfold maxLen at hmax'
      have hstep := ordF_step hf c hcb
      have hrow := hf c hcb
      have hsm := @rows_small bs hf h200 c hcb
      generalize hl : bs[c] = row at *
      have HL := Lib.hid (And.intro hl (And.intro hstep (And.intro hrow @hsm))); clear hl hstep hrow hsm
      have hrl := nodup_len c row HL.out.2.2.1.1 HL.out.2.2.1.2
      have hBs := hB.size
      go_wp2
      go_loopg [5, 6, 7] row.length (fun g2 lv gd i wy => ∃ (k : Nat) (gb : Bool), k + g2 = row.length ∧ i = .int .i64 k ∧ gd = .bool gb ∧ Aside (gb = goodF bs row k) ∧
        Ents bs (fun b => u3.ownBlock = some b ∨ lv.ownBlock = some b) w.heap.size wy u3 c id ∧ Ents bs (fun b => u3.ownBlock = some b ∨ lv.ownBlock = some b) w.heap.size wy lv k (fun i => (row.getD i 0).toNat) ∧ Below w.heap.size w wy ∧
        (∀ j, lv.ownBlock = some j → u3.ownBlock ≠ some j))
      case atStart => exact ⟨0, true, by omega, rfl, rfl, rfl, hE.avoid (fun b _ hb => by rcases hb with hb | hb; exact hb; cases hb), Ents.nil _ _ _ _ _, hB, fun j e => by cases e⟩
      case round =>
        obtain ⟨k, gb, hk, rfl, rfl, HG, hE1, hE2, hB2, hne⟩ := hrel
        clear hE hB
        have hagr : Agree S w wr := (Agree.of_below hB2).sub hS
        have hcw := (hagr.cell (a := ⟨b, o + c, none⟩) hb).trans hcell
        have hB2s := hB2.size
        have hEb := hE1.lv
        have hLb := hE2.lv
        cases gk with
        | zero =>
          have hkz : ¬ ((k : Int) < (row.length : Int)) := by omega
          have hE1c := hE1
          obtain ⟨cs3, hown3, hcs3⟩ := hE1
          have hlen3 : cs3.length = c := by obtain ⟨_, _, _, _, _, h⟩ := own_form hown3; exact h
          have hbig : c + 1 ≤ maxLen := by unfold maxLen; omega
          have hbig2 : (c + 1) * 24 ≤ 140737488355328 := by omega
          obtain rfl : k = row.length := by omega
          cases gb with
          | false =>
            have hno : ordF bs c = none := by rw [HL.out.2.1]; unfold stepF; rw [goodF_false HG.out.symm]
            have HNO := Lib.hid (And.intro hno hlen3); clear hno hlen3
            go_wp2_with (at_builtin; refine wpl_append rfl _ _ 22 rfl 24 (.slice none 0 0) 1 24 Try.underlying22 Try.infoRow rfl (by decide) (hown3.alloc _) rfl (Src.one (cell_new _ _ _) rfl) rfl hbig hbig2 (by simp; omega) ?_; intro u' w2 hown2 hg2 hblk)
            have hE3 := Ents.push (f := id) (fun i hi => (hcs3 i hi)) HNO.out.2 (Or.inl ⟨HNO.out.1, rfl⟩) (fun j e => .inl e) hown2 hg2 hblk
            have hg12 : Grow u3.ownBlock wr w2 := ((Grow.refl u3.ownBlock wr).alloc _).trans hg2 (fun j e => .inl e)
            go_roundg g
            case measure => omega
            case rel => exact ⟨c + 1, by omega, by go_num, hE3.avoid (fun b _ hb => .inr hb), hB2.trans (hg12.below (by omega) (fun j e => (hEb j e).1))⟩
          | true =>
            obtain ⟨ls, hls⟩ := goodF_true HG.out.symm
            obtain ⟨hll, hords⟩ := rowsF_some hls
            obtain ⟨cs5, hown5, hcs5⟩ := hE2
            have hlen5 : cs5.length = row.length := by obtain ⟨_, _, _, _, _, h⟩ := own_form hown5; exact h
            have hsmall := HL.out.2.2.2 (ls := ls) (by omega) hords
            have hstep : ordF bs c = if (mergeL (ls ++ [row])).2 then some ((c : Int) :: (mergeL (ls ++ [row])).1) else none := by rw [HL.out.2.1]; unfold stepF; rw [hls]
            have hu2 := RInts.good.wider (T := fun b => b ≠ wr.heap.size ∧ some b ≠ u5.ownBlock ∧ b < wr.heap.size) (fun b hb => ⟨by have := hS b hb; omega, fun e => by have := (hLb b e.symm).1; have := hS b hb; omega, by have := hS b hb; omega⟩) (RInts.good.keep hagr hu)
            have hcs : ∀ i (h1 : i < ls.length) (h2 : i < cs5.length), RInts (fun b => b ≠ wr.heap.size ∧ some b ≠ u5.ownBlock ∧ b < wr.heap.size) wr [cs5[i]] ls[i] := fun i h1 h2 => by
              have he := hcs5 i h2
              have hi : i < row.length := by omega
              have hgd : (row.getD i 0).toNat = row[i].toNat := by rw [List.getD_eq_getElem?_getD, List.getElem?_eq_getElem hi, Option.getD_some]
              simp only [hgd] at he
              rcases he with ⟨h', _⟩ | ⟨l, h1', h2', h3'⟩
              · rw [hords i hi h1] at h'; cases h'
              · rw [hords i hi h1] at h1'
                obtain rfl := Option.some.inj h1'
                exact RInts.good.wider (fun b hb => ⟨by have := hb.2.2; omega, fun e => hb.1 (.inr e.symm), hb.2.2⟩) h3'.reads
            have hpos : ∀ l ∈ ls ++ [row], ∀ x ∈ l, (0 : Int) ≤ x := by
              intro l hm x hx
              rcases List.mem_append.1 hm with hm | hm
              · obtain ⟨i, hi, rfl⟩ := List.getElem_of_mem hm
                have hb' := HL.out.2.2.1.2 (row[i]'(by omega)) (List.getElem_mem _)
                exact (ordF_mem hf c _ (by omega) (by omega) _ (hords i (by omega) hi) x hx).1
              · simp only [List.mem_singleton] at hm
                subst hm; exact (HL.out.2.2.1.2 x hx).1
            have hbg : ls.length + 1 ≤ maxLen := by unfold maxLen; omega
            have hbg2 : (ls.length + 1) * 24 ≤ 140737488355328 := by omega
            have hlen5' : cs5.length = ls.length := by omega
            rw [← hll] at hown5
            have HH := Lib.hid (And.intro hstep (And.intro hsmall (And.intro hlen5' (And.intro hll (And.intro hpos hlen3))))); clear hstep hsmall hlen5 hlen5' hll hpos hls hords hlen3 hagr
            go_wp2_with (at_builtin; refine wpl_append rfl _ _ 22 rfl 24 (.slice none 0 0) 1 24 Try.underlying22 Try.infoRow rfl (by decide) (hown5.alloc _) rfl (Src.one (cell_new _ _ _) rfl) rfl hbg hbg2 (by simp; omega) ?_; intro lv' w2 hown2 hg2 hblk)
            have hg12 : Grow u5.ownBlock wr w2 := ((Grow.refl u5.ownBlock wr).alloc _).trans hg2 (fun j e => .inl e)
            have hne2 : ∀ j, lv'.ownBlock = some j → u3.ownBlock ≠ some j := by
              intro j e e'
              rcases hblk with e2 | e2
              · exact hne j (e2.symm.trans e) e'
              · rw [e2] at e
                simp only [Option.some.injEq] at e
                have := (hEb j e').2
                simp at e; omega
            have hE2' := (hE1c.avoid (Y := fun b => (u3.ownBlock = some b ∨ u5.ownBlock = some b) ∨ lv'.ownBlock = some b) (fun b hb1 hb2 => by
              rcases hb2 with hb2 | hb2
              · exact hb2
              · rcases hblk with e | e
                · exact .inr (e.symm.trans hb2)
                · rw [e] at hb2; simp only [Option.some.injEq] at hb2; simp at hb2; omega)).keep hg12 (fun j e => .inl ⟨.inl (.inr e), hne j e⟩)
            have hL2 := Lists.push hcs HH.out.2.2.1 hu2 hown2 hg2 hblk
            have hlv2 := hL2.lv
            have hB3 : Below w.heap.size w w2 := hB2.trans (hg12.below (by omega) (fun j e => (hLb j e).1))
            clear hown2 hg2 hblk hown3 hcs3 hown5 hcs5 hcs hE1c hg12 hu2
            refine (rmerge_any _ _ _ _ w2 hL2 HH.out.2.1.1 HH.out.2.1.2 HH.out.2.2.2.2.1).mono ?_
            rintro e w3 ⟨x, bb, rfl, hbb, hol, hg3⟩
            have hE3 := (hE2'.keep hg3 (fun j e => .inl ⟨.inr e, hne2 j e⟩)).avoid (Y := fun b => u3.ownBlock = some b) (fun b _ h => .inl (.inl h))
            have hB4 : Below w.heap.size w w3 := hB3.trans (hg3.below (by have := hB3.size; omega) (fun j e => (hlv2 j e).1))
            have hst := HH.out.1
            rw [← hbb] at hst
            have HST := Lib.hid hst; clear hst hbb
            have hB4s := hB4.size
            have hE3b := hE3.lv
            obtain ⟨cs, hown, hcs⟩ := hE3
            have hlen : cs.length = c := by obtain ⟨_, _, _, _, _, h⟩ := own_form hown; exact h
            have HLEN := Lib.hid hlen; clear hlen
            cases bb with
            | false =>
              clear hol
              go_wp2_with (at_builtin; refine wpl_append rfl _ _ 22 rfl 24 (.slice none 0 0) 1 24 Try.underlying22 Try.infoRow rfl (by decide) (hown.alloc _) rfl (Src.one (cell_new _ _ _) rfl) rfl hbig hbig2 (by simp; omega) ?_; intro u' w4 hown2 hg2 hblk)
              have hE4 := Ents.push (f := id) hcs HLEN.out (Or.inl ⟨by rw [id, HST.out]; rfl, rfl⟩) (fun j e => e) hown2 hg2 hblk
              have hg12 : Grow u3.ownBlock w3 w4 := ((Grow.refl u3.ownBlock w3).alloc _).trans hg2 (fun j e => .inl e)
              go_roundg g
              case measure => omega
              case rel => exact ⟨c + 1, by omega, by go_num, hE4.avoid (fun b _ hb => .inr hb), hB4.trans (hg12.below (by omega) (fun j e => (hE3b j e).1))⟩
            | true =>
              obtain ⟨l, hown9, hll⟩ := hol rfl
              clear hol
              rw [if_pos rfl, ← hll] at HST
              have hllen : l.length ≤ 1000000 := by rw [hll]; exact Nat.le_trans (mergeF_len _ _) HH.out.2.1.1
              have HLL := Lib.hid hll; clear hll
              have hmx : 1 + l.length ≤ maxLen := by unfold maxLen; omega
              have hmx2 : (1 + l.length) * 8 ≤ 140737488355328 := by omega
              have hk : ∀ o w4, Grow (some w3.heap.size) (w3.alloc o) w4 → w4.ownsRow w.heap.size 24 1 u3 c cs := fun o w4 hg => (hown.alloc o).kept hg (by
                cases hv : u3.ownBlock with
                | none => exact .inl rfl
                | some z => exact .inr (fun e => by have := (hE3b z hv).2; simp only [Option.some.injEq] at e; omega))
              go_wp2_with (first
                | (at_builtin; refine wpl_append rfl _ _ 24 rfl 3 (.int .i64 0) 1 8 Try.underlying24 Try.infoInt rfl (by decide) (World.ownsRow_lit (base := w3.heap.size) w3 #[.int .i64 (c : Int)] 1 (Nat.le_refl _) (by decide) rfl) rfl (own_src (hown9.alloc _) (by intro u hu; obtain ⟨x, _, rfl⟩ := List.mem_map.1 hu; rfl)) rfl hmx hmx2 (by simp) ?_; intro x4 w4 hown4 hg4 hblk4; obtain ⟨xa, xc, rfl, _, _, _⟩ := own_form hown4)
                | (at_builtin; refine wpl_append rfl _ _ 22 rfl 24 (.slice none 0 0) 1 24 Try.underlying22 Try.infoRow rfl (by decide) ((hk _ _ hg4).alloc _) rfl (Src.one (cell_new _ _ _) rfl) rfl hbig hbig2 (by have := hg4.size; simp at this; simp; omega) ?_; intro u' w5 hown5 hg5 hblk5))
              have hg34 : Grow none w3 w4 := ((Grow.refl none w3).alloc _).trans hg4 (fun j e => .inr (by simp [Value.ownBlock] at e; omega))
              have e1 : 1 + l.length = ((c : Int) :: l).length := by rw [List.length_cons, Nat.add_comm]
              have hlb := hown4.lt
              have hor : ordF bs c = some ((c : Int) :: l) := HST.out
              have hrd : OwnInts (fun b => u3.ownBlock = some b) w.heap.size w4 (.slice xa (1 + l.length) xc) ((c : Int) :: l) := by
                refine ⟨?_, fun x hx => ?_, fun b hb hz => ?_⟩
                · rw [← e1]; exact own_base hown4 (fun j hj => by have := (hlb j hj).1; omega)
                · have hx := ordF_mem hf (c + 1) c (by omega) hcb _ hor x hx
                  exact WalkArith.wf_i64 (by omega)
                · have := (hlb b hb).1
                  have := (hE3b b hz).2
                  omega
              have hE4 := Ents.push (f := id) (fun i hi => (hcs i hi).keep hg34 (by simp)) HLEN.out (Or.inr ⟨_, hor, by simp, hrd⟩) (fun j e => e) hown5 hg5 hblk5
              have hg12 : Grow u3.ownBlock w4 w5 := ((Grow.refl u3.ownBlock w4).alloc _).trans hg5 (fun j e => .inl e)
              have hB5 : Below w.heap.size w w4 := hB4.trans (hg34.below hB4s (by simp))
              have hs4 := hB5.size
              go_roundg g
              case measure => omega
              case rel => exact ⟨c + 1, by omega, by go_num, hE4.avoid (fun b _ hb => .inr hb), hB5.trans (hg12.below hs4 (fun j e => (hE3b j e).1))⟩
        | succ g2 =>
          have hkz : (k : Int) < (row.length : Int) := by omega
          have hkr : k < row.length := by omega
          obtain ⟨b2, o2, hb2, rfl, hx2, hc2, _, _⟩ := RInts.get hu k hkr
          have hy := HL.out.2.2.1.2 row[k] (List.getElem_mem _)
          obtain ⟨y, hyy⟩ : ∃ y : Nat, row[k] = (y : Int) := ⟨row[k].toNat, by omega⟩
          have hgd : row.getD k 0 = (y : Int) := by rw [List.getD_eq_getElem?_getD, List.getElem?_eq_getElem hkr, Option.getD_some, hyy]
          have hgs := goodF_succ bs row k hkr
          rw [hyy] at hc2 hy hgs
          rw [Int.toNat_natCast] at hgs
          have hc2' := (hagr.cell (a := ⟨b2, o2 + k, none⟩) hb2).trans hc2
          obtain ⟨g3, cap3, val, rfl, hcell3, hval⟩ := hE1.at y (by omega)
          obtain ⟨av, nv, cv, rfl, hnil⟩ := hval.nil_iff
          obtain ⟨sb, hsb⟩ : ∃ sb, sb = (ordF bs y).isSome := ⟨_, rfl⟩
          simp only [id] at hnil hval
          rw [← hsb] at hnil
          have hneq : ∀ w, (binOp .neq 24 (.slice av nv cv) (.slice none 0 0)).run Try.prog w = .ok (.bool sb) w := fun w => by
            rw [Go.run_neq_slice_nil_any (P := Try.prog) w 24 3 av nv cv 0 0 Try.underlying24, hnil]
          obtain ⟨cs, hown, hcs⟩ := hE2
          have hlen : cs.length = k := by obtain ⟨_, _, _, _, _, h⟩ := own_form hown; exact h
          have hbig : k + 1 ≤ maxLen := by unfold maxLen; omega
          have hbig2 : (k + 1) * 24 ≤ 140737488355328 := by omega
          have hcap3 : (y : Int) < (c : Int) := by omega
          have hc3 : c ≤ 200 := by omega
          clear hc2
          have HR := Lib.hid (And.intro hgd (And.intro hgs (And.intro hnil (And.intro hsb (And.intro hyy hlen))))); clear hgd hgs hnil hsb hyy hlen
          cases gb
          all_goals
            go_wp2_with (at_builtin; refine wpl_append rfl _ _ 22 rfl 24 (.slice none 0 0) 1 24 Try.underlying22 Try.infoRow rfl (by decide) (hown.alloc _) rfl (Src.one (cell_new _ _ _) rfl) rfl hbig hbig2 (by simp; omega) ?_; intro lv' w2 hown2 hg2 hblk)
            have hg12 : Grow u5.ownBlock wr w2 := ((Grow.refl u5.ownBlock wr).alloc _).trans hg2 (fun j e => .inl e)
            have hE2' := Ents.push (f := fun i => (row.getD i 0).toNat) hcs HR.out.2.2.2.2.2 (by show Ent _ _ _ _ (row.getD k 0).toNat _; rw [HR.out.1]; exact hval) (fun j e => .inr e) hown2 hg2 hblk
            have hE1' := (hE1.avoid (Y := fun b => ((Value.slice (some ⟨g3, 0, none⟩) c cap3).ownBlock = some b ∨ u5.ownBlock = some b) ∨ lv'.ownBlock = some b) (fun b hb1 hb2 => by
              rcases hb2 with hb2 | hb2
              · exact hb2
              · rcases hblk with e | e
                · exact .inr (e.symm.trans hb2)
                · rw [e] at hb2; simp only [Option.some.injEq] at hb2; simp at hb2; omega)).keep hg12 (fun j e => .inl ⟨.inl (.inr e), hne j e⟩)
            go_roundg g2
            case measure => omega
            case rel =>
              refine ⟨k + 1, _, by omega, by go_num, rfl, ?_, hE1'.avoid ?_, hE2'.avoid ?_, (hB2.trans (hg12.below (by omega) (fun j e => (hLb j e).1))), ?_⟩
              · show _ = _; rw [HR.out.2.1, ← HG.out, ← HR.out.2.2.2.1]; rfl
              · intro b _ hb; rcases hb with hb | hb
                · exact .inl (.inl hb)
                · exact .inr hb
              · intro b _ hb; rcases hb with hb | hb
                · exact .inl (.inl hb)
                · exact .inr hb
              · intro j e e'
                rcases hblk with e2 | e2
                · exact hne j (e2.symm.trans e) e'
                · rw [e2] at e
                  simp only [Option.some.injEq] at e
                  have := (hEb j e').2
                  simp at e; omega
end Go.Proofs.Ythmhcpfplmhgnaa
