/- order of package mro: the map of known orders grows by the orders that it needs. -/
import Derived.Test.YthmhcpfplmhgnaaMerge
import Derived.Test.YthmhcpfplmhgnaaMap
import Derived.Test.YthmhcpfplmhgnaaOrderF
namespace Go.Proofs.Ythmhcpfplmhgnaa
open Go.ChangeShapes Go.WideShapes Go.ChangeAt Go.RowKit
set_option linter.unusedSimpArgs false
set_option linter.unusedVariables false

theorem zeroRow (w : World) : (zeroValue 24).run Try.prog w = .ok (.slice none 0 0) w := by kernel_rfl

/-- A list of ints in a row of its own, in no block of Z. -/
def OwnInts (Z : Nat → Prop) (base : Nat) (w : World) (v : Value) (l : List Int) : Prop :=
  w.ownsRow base 3 1 v l.length (l.map (Value.int .i64)) ∧ (∀ x ∈ l, (Lit.int .i64 x).wf = true) ∧ ∀ b, v.ownBlock = some b → ¬ Z b
theorem OwnInts.reads {Z : Nat → Prop} {base : Nat} {w : World} {v : Value} {l : List Int} (h : OwnInts Z base w v l) : RInts (fun b => ¬ Z b ∧ base ≤ b ∧ b < w.heap.size) w [v] l :=
  own_reads h.1 rfl (fun i h1 h2 => ⟨by simp only [List.getElem_map], h.2.1 _ (List.getElem_mem _)⟩) (fun b hb => ⟨h.2.2 b hb, h.1.lt b hb⟩)
theorem OwnInts.keep {Z : Nat → Prop} {base : Nat} {w w' : World} {v : Value} {l : List Int} {row : Option Nat} (h : OwnInts Z base w v l) (hg : Grow row w w') (hr : ∀ j, row = some j → Z j ∨ w.heap.size ≤ j) : OwnInts Z base w' v l := by
  refine ⟨h.1.kept hg ?_, h.2⟩
  cases hv : v.ownBlock with
  | none => exact .inl rfl
  | some k => exact .inr (fun e => by
      rcases hr k e.symm with h' | h'
      · exact h.2.2 k hv h'
      · have := (h.1.lt k hv).2; omega)
theorem OwnInts.avoid {Z Y : Nat → Prop} {base : Nat} {w : World} {v : Value} {l : List Int} (h : OwnInts Z base w v l) (hY : ∀ b, b < w.heap.size → Y b → Z b) : OwnInts Y base w v l :=
  ⟨h.1, h.2.1, fun b hb hy => h.2.2 b hb (hY b (h.1.lt b hb).2 hy)⟩

/-- Block r is a map of orders: what it has are orders of these bases, in memory behind r and outside of X. -/
structure Known (bs : List (List Int)) (X : Nat → Prop) (r : Nat) (m : Int → Option Value) (w : World) : Prop where
  map : MapIs w r m
  has : ∀ k val, m k = some val → ∃ (c : Nat) (l : List Int), k = c ∧ ordF bs c = some l ∧ l ≠ [] ∧ OwnInts (fun b => b = r ∨ X b) (r + 1) w val l
theorem Known.keep {bs : List (List Int)} {X : Nat → Prop} {r : Nat} {m : Int → Option Value} {w w' : World} {row : Option Nat} (h : Known bs X r m w) (hg : Grow row w w') (hr : ∀ j, row = some j → (X j ∧ j ≠ r) ∨ w.heap.size ≤ j) : Known bs X r m w' := by
  have hlt := h.map.lt
  refine ⟨h.map.kept (hg.block r hlt (fun e => by rcases hr r e.symm with ⟨_, h'⟩ | h'; exact h' rfl; omega)), fun k val hk => ?_⟩
  obtain ⟨c, l, e1, e2, e3, e4⟩ := h.has k val hk
  exact ⟨c, l, e1, e2, e3, e4.keep hg fun j e => (hr j e).imp (fun h => .inr h.1) id⟩
theorem Known.avoid {bs : List (List Int)} {X Y : Nat → Prop} {r : Nat} {m : Int → Option Value} {w : World} (h : Known bs X r m w) (hY : ∀ b, Y b → X b ∨ w.heap.size ≤ b) : Known bs Y r m w := by
  refine ⟨h.map, fun k val hk => ?_⟩
  obtain ⟨c, l, e1, e2, e3, e4⟩ := h.has k val hk
  refine ⟨c, l, e1, e2, e3, e4.avoid fun b hb hy => ?_⟩
  rcases hy with hy | hy
  · exact .inl hy
  · rcases hY b hy with h' | h'
    · exact .inr h'
    · omega
theorem Known.put {bs : List (List Int)} {X : Nat → Prop} {r : Nat} {m : Int → Option Value} {w w' : World} (h : Known bs X r m w) {c : Nat} {u : Value} {l : List Int} (ho : ordF bs c = some l) (hl : l ≠ [])
    (hu : OwnInts (fun b => b = r ∨ X b) (r + 1) w u l) (hm : MapIs w' r (fun j => if j = (c : Int) then some u else m j)) (hg : Grow (some r) w w') : Known bs X r (fun j => if j = (c : Int) then some u else m j) w' := by
  refine ⟨hm, fun k val hk => ?_⟩
  by_cases e : k = (c : Int)
  · rw [if_pos e] at hk
    simp only [Option.some.injEq] at hk
    subst hk
    exact ⟨c, l, e, ho, hl, hu.keep hg (fun j e => .inl (.inl (by simpa using e.symm)))⟩
  · rw [if_neg e] at hk
    obtain ⟨c', l', e1, e2, e3, e4⟩ := h.has k val hk
    exact ⟨c', l', e1, e2, e3, e4.keep hg (fun j e => .inl (.inl (by simpa using e.symm)))⟩
theorem RInts.notNil {S : Nat → Prop} {w : World} {v : Value} {l : List Int} (h : RInts S w [v] l) (hl : l ≠ []) : ∃ ad cap, v = .slice (some ad) l.length cap := by
  obtain ⟨a, cap, rfl, _, _⟩ := h.form
  have hp : 0 < l.length := List.length_pos_iff.2 hl
  obtain ⟨b, o, _, rfl, _⟩ := RInts.get h 0 hp
  exact ⟨_, _, rfl⟩

/-- What order(bases, c, known) answers, and what it leaves. -/
def Ordered (bs : List (List Int)) (X : Nat → Prop) (r c : Nat) (w : World) (e : Ending) (w' : World) : Prop :=
  ∃ ok : Bool, e = .returned (.bool ok) ∧ ok = (ordF bs c).isSome ∧ Grow (some r) w w' ∧ ∃ m, Known bs X r m w' ∧ (ok = true → ∃ val, m (c : Int) = some val)
theorem Ordered.yes {bs : List (List Int)} {X : Nat → Prop} {r c : Nat} {w w' : World} {m : Int → Option Value} {l : List Int} {val : Value} (ho : ordF bs c = some l) (hg : Grow (some r) w w') (hk : Known bs X r m w') (hv : m (c : Int) = some val) :
    Ordered bs X r c w (.returned (.bool true)) w' := ⟨true, rfl, by rw [ho]; rfl, hg, m, hk, fun _ => ⟨val, hv⟩⟩
theorem Ordered.no {bs : List (List Int)} {X : Nat → Prop} {r c : Nat} {w w' : World} {m : Int → Option Value} (ho : ordF bs c = none) (hg : Grow (some r) w w') (hk : Known bs X r m w') :
    Ordered bs X r c w (.returned (.bool false)) w' := ⟨false, rfl, by rw [ho]; rfl, hg, m, hk, fun h => by cases h⟩

/-- In the midst of the loop over a class's bases: k of their orders are in the list. -/
structure Mid (bs : List (List Int)) (X : Nat → Prop) (r : Nat) (row : List Int) (w : World) (k : Nat) (ls : List (List Int)) (lv : Value) (wr : World) : Prop where
  grow : Grow (some r) w wr
  own : Lists (fun b => b ≠ r ∧ some b ≠ lv.ownBlock ∧ b < wr.heap.size) w.heap.size lv ls wr
  known : ∃ m, Known bs (fun b => X b ∨ lv.ownBlock = some b) r m wr
  len : ls.length = k
  ords : ∀ i (h1 : i < row.length) (h2 : i < ls.length), ordF bs row[i].toNat = some ls[i]
theorem Lists.lv {S : Nat → Prop} {base : Nat} {v : Value} {ls : List (List Int)} {w : World} (h : Lists S base v ls w) : ∀ b, v.ownBlock = some b → base ≤ b ∧ b < w.heap.size := by
  obtain ⟨cs, ho, _⟩ := h.own
  exact fun b hb => ho.lt b hb
theorem Mid.start {bs : List (List Int)} {X : Nat → Prop} {r : Nat} {row : List Int} {w : World} {m : Int → Option Value} (h : Known bs X r m w) : Mid bs X r row w 0 [] (.slice none 0 0) w :=
  ⟨Grow.refl _ _, ⟨⟨[], World.ownsRow_nil _ _ _ _, fun i h => absurd h (Nat.not_lt_zero _)⟩, fun b hb => ⟨hb.2.2, hb.2.1⟩⟩, ⟨m, h.avoid fun b hb => by rcases hb with hb | hb; exact .inl hb; cases hb⟩, rfl, fun i _ h => absurd h (Nat.not_lt_zero _)⟩
/-- One order more. -/
theorem Mid.push {bs : List (List Int)} {X : Nat → Prop} {r : Nat} {row : List Int} {w wr w1 w2 : World} {k : Nat} {ls : List (List Int)} {lv lv' val : Value} {m : Int → Option Value} {l : List Int} {cs : List Value} {o : Obj}
    (h : Mid bs X r row w k ls lv wr) (hr : r < w.heap.size) (hg : Grow (some r) wr w1) (hk : Known bs (fun b => X b ∨ lv.ownBlock = some b) r m w1)
    (hv : RInts (fun b => b ≠ r ∧ ¬ (X b ∨ lv.ownBlock = some b) ∧ b < w1.heap.size) w1 [val] l)
    (hcs : ∀ i (h1 : i < ls.length) (h2 : i < cs.length), RInts (fun b => b ≠ r ∧ some b ≠ lv.ownBlock ∧ b < wr.heap.size) wr [cs[i]] ls[i]) (hlen : cs.length = ls.length)
    (hown : w2.ownsRow w.heap.size 24 1 lv' (ls.length + 1) (cs ++ [val])) (hg2 : Grow lv.ownBlock (w1.alloc o) w2) (hb : lv'.ownBlock = lv.ownBlock ∨ lv'.ownBlock = some (w1.alloc o).heap.size)
    (hkk : k < row.length) (hord : ordF bs row[k].toNat = some l) : Mid bs X r row w (k + 1) (ls ++ [l]) lv' w2 := by
  have hsz : wr.heap.size ≤ w1.heap.size := hg.size
  have hsz2 : w1.heap.size + 1 ≤ w2.heap.size := by have := hg2.size; simpa using this
  have hlv := h.own.lv
  have hg12 : Grow lv.ownBlock w1 w2 := ((Grow.refl lv.ownBlock w1).alloc o).trans hg2 (fun j e => .inl e)
  have hnew : ∀ b, b < w1.heap.size → some b ≠ lv.ownBlock → some b ≠ lv'.ownBlock := by
    intro b hb1 hb2 e
    rcases hb with e' | e'
    · exact hb2 (e.trans e')
    · rw [e'] at e
      simp only [Option.some.injEq] at e
      simp at e; omega
  refine ⟨?_, ⟨⟨cs ++ [val], by simpa using hown, fun i h1 h2 => ?_⟩, fun b hb => ⟨hb.2.2, hb.2.1⟩⟩, ⟨m, ?_⟩, by simp [h.len], fun i h1 h2 => ?_⟩
  · exact (h.grow.trans hg (fun j e => .inl e)).trans hg12 (fun j e => .inr (hlv j e).1)
  · by_cases hi : i < ls.length
    · rw [List.getElem_append_left (by omega), List.getElem_append_left hi]
      have e1 := hcs i hi (by omega)
      have e2 := RInts.good.keep (hg.agree fun b hb => ⟨hb.2.2, fun e => hb.1 (by simpa using e)⟩) e1
      have e3 := RInts.good.keep (hg12.agree fun b hb => ⟨Nat.lt_of_lt_of_le hb.2.2 hsz, hb.2.1⟩) e2
      exact RInts.good.wider (fun b hb => ⟨hb.1, hnew b (by omega) hb.2.1, by omega⟩) e3
    · have hi' : i = ls.length := by simp at h1; omega
      subst hi'
      have e0 : (cs ++ [val])[ls.length]'h2 = val := by rw [List.getElem_append_right (by omega)]; simp [hlen]
      rw [e0, List.getElem_append_right (by omega)]
      simp only [Nat.sub_self, List.getElem_cons_zero]
      have e3 := RInts.good.keep (hg12.agree fun b hb => ⟨hb.2.2, fun e => hb.2.1 (.inr e.symm)⟩) hv
      exact RInts.good.wider (fun b hb => ⟨hb.1, hnew b hb.2.2 (fun e => hb.2.1 (.inr e.symm)), by omega⟩) e3
  · have hk' : Known bs (fun b => (X b ∨ lv.ownBlock = some b) ∨ lv'.ownBlock = some b) r m w1 := hk.avoid fun b hb' => by
      rcases hb' with hb' | hb'
      · exact .inl hb'
      · rcases hb with e' | e'
        · exact .inl (.inr (e'.symm.trans hb'))
        · rw [e'] at hb'
          simp only [Option.some.injEq] at hb'
          simp at hb'; exact .inr (by omega)
    refine (hk'.keep hg12 (fun j e => .inl ⟨.inl (.inr e), fun e' => by have := (hlv j e).1; omega⟩)).avoid fun b hb' => .inl ?_
    rcases hb' with hb' | hb'
    · exact .inl (.inl hb')
    · exact .inr hb'
  · by_cases hi : i < ls.length
    · rw [List.getElem_append_left hi]; exact h.ords i h1 hi
    · have hi' : i = ls.length := by simp at h2; omega
      subst hi'
      rw [List.getElem_append_right (by omega)]
      simp only [Nat.sub_self, List.getElem_cons_zero]
      have e : ls.length = k := h.len
      subst e
      exact hord

theorem Lists.push {r base : Nat} {w1 w2 : World} {ls : List (List Int)} {lv lv' val : Value} {l : List Int} {cs : List Value} {o : Obj}
    (hcs : ∀ i (h1 : i < ls.length) (h2 : i < cs.length), RInts (fun b => b ≠ r ∧ some b ≠ lv.ownBlock ∧ b < w1.heap.size) w1 [cs[i]] ls[i]) (hlen : cs.length = ls.length)
    (hv : RInts (fun b => b ≠ r ∧ some b ≠ lv.ownBlock ∧ b < w1.heap.size) w1 [val] l)
    (hown : w2.ownsRow base 24 1 lv' (ls.length + 1) (cs ++ [val])) (hg2 : Grow lv.ownBlock (w1.alloc o) w2) (hb : lv'.ownBlock = lv.ownBlock ∨ lv'.ownBlock = some (w1.alloc o).heap.size) :
    Lists (fun b => b ≠ r ∧ some b ≠ lv'.ownBlock ∧ b < w2.heap.size) base lv' (ls ++ [l]) w2 := by
  have hsz2 : w1.heap.size + 1 ≤ w2.heap.size := by have := hg2.size; simpa using this
  have hg12 : Grow lv.ownBlock w1 w2 := ((Grow.refl lv.ownBlock w1).alloc o).trans hg2 (fun j e => .inl e)
  have hnew : ∀ b, b < w1.heap.size → some b ≠ lv.ownBlock → some b ≠ lv'.ownBlock := by
    intro b hb1 hb2 e
    rcases hb with e' | e'
    · exact hb2 (e.trans e')
    · rw [e'] at e
      simp only [Option.some.injEq] at e
      simp at e; omega
  have lift : ∀ {u : Value} {y : List Int}, RInts (fun b => b ≠ r ∧ some b ≠ lv.ownBlock ∧ b < w1.heap.size) w1 [u] y → RInts (fun b => b ≠ r ∧ some b ≠ lv'.ownBlock ∧ b < w2.heap.size) w2 [u] y := fun h =>
    RInts.good.wider (fun b hb => ⟨hb.1, hnew b hb.2.2 hb.2.1, by omega⟩) (RInts.good.keep (hg12.agree fun b hb => ⟨hb.2.2, hb.2.1⟩) h)
  refine ⟨⟨cs ++ [val], by simpa using hown, fun i h1 h2 => ?_⟩, fun b hb => ⟨hb.2.2, hb.2.1⟩⟩
  by_cases hi : i < ls.length
  · rw [List.getElem_append_left (by omega), List.getElem_append_left hi]
    exact lift (hcs i hi (by omega))
  · have hi' : i = ls.length := by simp at h1; omega
    subst hi'
    have e0 : (cs ++ [val])[ls.length]'h2 = val := by rw [List.getElem_append_right (by omega)]; simp [hlen]
    rw [e0, List.getElem_append_right (by omega)]
    simp only [Nat.sub_self, List.getElem_cons_zero]
    exact lift hv

set_option maxHeartbeats 1600000 in
set_option maxRecDepth 100000 in
theorem order_any (bs : List (List Int)) (hf : Fits bs) (h200 : bs.length ≤ 200) : ∀ (n c : Nat), c < n → c < bs.length →
    ∀ (X S : Nat → Prop) (v : Value) (r : Nat) (m : Int → Option Value) (w : World), RRows S w [v] bs → (∀ b, S b → b < w.heap.size ∧ b ≠ r) → (∀ b, X b → b < w.heap.size ∧ b ≠ r) → Known bs X r m w →
    Calls Try.prog 15 #[v, .int .i64 (c : Int), .map (some r)] w (Ordered bs X r c w) := by
  intro n
  induction n with
  | zero => intro c h; exact absurd h (Nat.not_lt_zero _)
  | succ n ih =>
    intro c hcn hcb X S v r m w h hS hX hK
    have IH := Lib.hid ih; clear ih
    have HSX := Lib.hid (And.intro hS hX); clear hS hX
    have hlt := hK.map.lt
    cases hm : m (c : Int) with
    | some val =>
      obtain ⟨c', l, hc', ho, hl, hr⟩ := hK.has _ _ hm
      have hcc : c' = c := by omega
      subst hcc
      obtain ⟨ad, cap, rfl⟩ := hr.reads.notNil hl
      have hne := Go.run_neq_slice_nil_any (P := Try.prog) w 24 3 (some ad) l.length cap 0 0 Try.underlying24
      have HM := Lib.hid hm
      go_enter Try.func15, Try.ntmps15
      go_wp2_with (at_lookup; refine wpl_mapLook rfl _ _ 38 rfl Try.underlying38 Try.underlying3 (zeroRow _) hK.map rfl rfl ?_; rw [hm]; simp only [Option.getD_some])
      go_ret
      exact Ordered.yes ho (Grow.refl _ _) hK HM.out
    | none =>
      have hne := Go.run_neq_slice_nil_any (P := Try.prog) w 24 3 none 0 0 0 0 Try.underlying24
      obtain ⟨a, cap, rfl, hcap, hmax⟩ := h.form
      unfold maxLen at hmax
      obtain ⟨b, o, hb, rfl, hx, u, hu, hc⟩ := h.get1 c hcb
      obtain ⟨a', cap', rfl, hcap', hmax'⟩ := hu.form
      unfold maxLen at hmax'
      have hstep := ordF_step hf c hcb
      have hrow := hf c hcb
      have hsm := @rows_small bs hf h200 c hcb
      generalize hl : bs[c] = row at *
      have HL := Lib.hid (And.intro hl (And.intro hstep (And.intro hrow @hsm))); clear hl hstep hrow hsm
      go_enter Try.func15, Try.ntmps15
      go_wp2_with (at_lookup; refine wpl_mapLook rfl _ _ 38 rfl Try.underlying38 Try.underlying3 (zeroRow _) hK.map rfl rfl ?_; rw [hm]; simp only [Option.getD_none])
      go_loopg [7, 21] row.length (fun g lv i wr => ∃ (k : Nat) (ls : List (List Int)), k + g = row.length ∧ i = .int .i64 k ∧ Mid bs X r row w k ls lv wr)
      case atStart => exact ⟨0, [], by omega, rfl, Mid.start hK⟩
      case round =>
        obtain ⟨k, ls, hk, rfl, hM⟩ := hrel
        cases gk with
        | zero =>
          have hkz : ¬ ((k : Int) < (row.length : Int)) := by omega
          have hagr : Agree S w wr := hM.grow.agree fun b hb => ⟨(HSX.out.1 b hb).1, fun e => (HSX.out.1 b hb).2 (by simpa using e)⟩
          have hc2 := (hagr.cell (a := ⟨b, o + c, none⟩) hb).trans hc
          have hu2 := RInts.good.wider (T := fun b => b ≠ r ∧ some b ≠ u7.ownBlock ∧ b < wr.heap.size) (fun b hb => ⟨(HSX.out.1 b hb).2, fun e => by have := (hM.own.lv b e.symm).1; have := (HSX.out.1 b hb).1; omega, Nat.lt_of_lt_of_le (HSX.out.1 b hb).1 hM.grow.size⟩) (RInts.good.keep hagr hu)
          obtain ⟨cs, hown, hcs⟩ := hM.own.own
          obtain ⟨m1, hkn⟩ := hM.known
          have hlen : cs.length = ls.length := by obtain ⟨_, _, _, _, _, h⟩ := own_form hown; exact h
          have hlk : ls.length = row.length := by have := hM.len; omega
          have hrl := nodup_len c row HL.out.2.2.1.1 HL.out.2.2.1.2
          have hbig : ls.length + 1 ≤ maxLen := by unfold maxLen; omega
          have hbig2 : (ls.length + 1) * 24 ≤ 140737488355328 := by omega
          have hBw : w.heap.size ≤ wr.heap.size := hM.grow.size
          have hsmall := HL.out.2.2.2 (ls := ls) (by omega) hM.ords
          have hrows : rowsF (ordF bs) row = some ls := rowsF_take hlk hM.ords
          have hstep : ordF bs c = if (mergeL (ls ++ [row])).2 then some ((c : Int) :: (mergeL (ls ++ [row])).1) else none := by rw [HL.out.2.1]; unfold stepF; rw [hrows]
          have HH := Lib.hid (And.intro hstep (And.intro hsmall (And.intro hlen hlk))); clear hstep hrows hsmall hlen hlk hagr
          have HH2 := Lib.hid hrl; clear hrl
          go_wp2_with (at_builtin; refine wpl_append rfl _ _ 22 rfl 24 (.slice none 0 0) 1 24 Try.underlying22 Try.infoRow rfl (by decide) (hown.alloc _) rfl (Src.one (cell_new _ _ _) rfl) rfl hbig hbig2 (by simp; omega) ?_; intro lv' w2 hown2 hg2 hblk)
          have hL2 := Lists.push hcs HH.out.2.2.1 hu2 hown2 hg2 hblk
          have hgw2 : Grow u7.ownBlock wr w2 := ((Grow.refl u7.ownBlock wr).alloc _).trans hg2 (fun j e => .inl e)
          have hk2 : Known bs (fun b => X b ∨ lv'.ownBlock = some b) r m1 w2 := by
            have hk' : Known bs (fun b => (X b ∨ u7.ownBlock = some b) ∨ lv'.ownBlock = some b) r m1 wr := hkn.avoid fun b hb' => by
              rcases hb' with hb' | hb'
              · exact .inl hb'
              · rcases hblk with e' | e'
                · exact .inl (.inr (e'.symm.trans hb'))
                · rw [e'] at hb'
                  simp only [Option.some.injEq] at hb'
                  simp at hb'; exact .inr (by omega)
            refine (hk'.keep hgw2 (fun j e => .inl ⟨.inl (.inr e), fun e' => by have := (hM.own.lv j e).1; omega⟩)).avoid fun b hb' => .inl ?_
            rcases hb' with hb' | hb'
            · exact .inl (.inl hb')
            · exact .inr hb'
          have hgr2 : Grow (some r) w w2 := hM.grow.trans hgw2 (fun j e => .inr (hM.own.lv j e).1)
          have hlv2 := hL2.lv
          clear hown2 hg2 hblk hown hcs hcap'
          refine (merge_any _ _ _ _ w2 hL2 HH.out.2.1.1 HH.out.2.1.2).mono ?_
          rintro e w3 ⟨u, bb, rfl, hbb, ⟨l, hol, hll⟩, hg3⟩
          have hk3 : Known bs X r m1 w3 := (hk2.keep hg3 (fun j e => .inl ⟨.inr e, fun e' => by have := (hlv2 j e).1; omega⟩)).avoid fun b hb' => .inl (.inl hb')
          have hgr3 : Grow (some r) w w3 := hgr2.trans hg3 (fun j e => .inr (hlv2 j e).1)
          have hst := HH.out.1
          rw [← hbb, ← hll] at hst
          have HST := Lib.hid hst; clear hst
          have hllen : l.length ≤ 1000000 := by
            rw [hll]; exact Nat.le_trans (mergeF_len _ _) HH.out.2.1.1
          have HLL := Lib.hid (And.intro hbb hll); clear hbb hll
          cases bb with
          | false =>
            go_wp2
            go_ret
            exact Ordered.no (by rw [HST.out]; rfl) hgr3 hk3
          | true =>
            have hsz3 := hgr3.size
            have hrne : some r ≠ (Value.slice (some ⟨w3.heap.size, 0, none⟩) 1 1).ownBlock := by intro e; simp [Value.ownBlock] at e; have := hk3.map.lt; omega
            have hmx : 1 + l.length ≤ maxLen := by unfold maxLen; omega
            have hmx2 : (1 + l.length) * 8 ≤ 140737488355328 := by omega
            have hor : ordF bs c = some ((c : Int) :: l) := by rw [HST.out]; rfl
            have HOR := Lib.hid hor; clear hor
            go_wp2_with (first
              | (at_builtin; refine wpl_append rfl _ _ 24 rfl 3 (.int .i64 0) 1 8 Try.underlying24 Try.infoInt rfl (by decide) (World.ownsRow_lit (base := w3.heap.size) w3 #[.int .i64 (c : Int)] 1 (Nat.le_refl _) (by decide) rfl) rfl (own_src (hol.alloc _) (by intro u hu; obtain ⟨x, _, rfl⟩ := List.mem_map.1 hu; rfl)) rfl hmx hmx2 (by simp) ?_; intro u4 w4 hown4 hg4 hblk4)
              | (at_mapUpdate; go_loud (refine wpl_mapStore rfl _ _ _ 38 rfl Try.underlying38 Try.underlying3 (hk3.map.kept ((hg4.block r (Nat.lt_of_lt_of_le hk3.map.lt (by simp)) hrne).trans (Below.heap_alloc w3 _ r hk3.map.lt))) rfl rfl rfl ?_); intro w5 hm5 hg5 hs5))
            have hrlt := hk3.map.lt
            have hg34 : Grow none w3 w4 := ((Grow.refl none w3).alloc _).trans hg4 (fun j e => .inr (by simp [Value.ownBlock] at e; omega))
            have hg45 : Grow (some r) w4 w5 := hg5
            have hown : w4.ownsRow w3.heap.size 3 1 u4 ((c : Int) :: l).length (((c : Int) :: l).map (Value.int .i64)) := by
              have e : 1 + l.length = ((c : Int) :: l).length := by simp; omega
              rw [← e]; exact hown4
            have hlb := hown.lt
            have hrd : OwnInts (fun b => b = r ∨ X b) (r + 1) w4 u4 ((c : Int) :: l) := by
              refine ⟨own_base hown (fun j hj => by have := (hlb j hj).1; omega), fun x hx => ?_, fun b hb hz => ?_⟩
              · have hx := ordF_mem hf (c + 1) c (by omega) hcb _ HOR.out x hx
                exact WalkArith.wf_i64 (by omega)
              · have := (hlb b hb).1
                rcases hz with hz | hz
                · omega
                · have := (HSX.out.2 b hz).1; omega
            have hk4 := hk3.keep hg34 (by simp)
            have hput := hk4.put HOR.out (by simp) hrd hm5 hg45
            go_ret
            exact Ordered.yes HOR.out ((hgr3.trans hg34 (by simp)).trans hg45 (fun j e => .inl e)) hput (val := u4) (by simp)
        | succ g =>
          have hkz : (k : Int) < (row.length : Int) := by omega
          have hkr : k < row.length := by omega
          obtain ⟨b2, o2, hb2, rfl, hx2, hc2, _, _⟩ := RInts.get hu k hkr
          have hy := HL.out.2.2.1.2 row[k] (List.getElem_mem _)
          obtain ⟨y, hyy⟩ : ∃ y : Nat, row[k] = (y : Int) := ⟨row[k].toNat, by omega⟩
          have hro := @rowsF_none (ordF bs) row k hkr
          rw [hyy] at hc2 hy
          have hagr : Agree S w wr := hM.grow.agree fun b hb => ⟨(HSX.out.1 b hb).1, fun e => (HSX.out.1 b hb).2 (by simpa using e)⟩
          have hc2' := (hagr.cell (a := ⟨b2, o2 + k, none⟩) hb2).trans hc2
          obtain ⟨m1, hkn⟩ := hM.known
          have hcall := IH.out y (by omega) (by omega) (fun b => X b ∨ u7.ownBlock = some b) S _ r m1 wr (RRows.good.keep hagr h) (fun b hb => ⟨Nat.lt_of_lt_of_le (HSX.out.1 b hb).1 hM.grow.size, (HSX.out.1 b hb).2⟩)
            (fun b hb => by
              rcases hb with hb | hb
              · exact ⟨Nat.lt_of_lt_of_le (HSX.out.2 b hb).1 hM.grow.size, (HSX.out.2 b hb).2⟩
              · have := hM.own.lv b hb; exact ⟨this.2, by omega⟩) hkn
          have HR := Lib.hid (And.intro hyy @hro); clear hyy hro
          have HC := Lib.hid hcall; clear hcall
          have HAG := Lib.hid hagr; clear hagr
          clear hc2
          cases ho : ordF bs y with
          | none =>
            go_wp2_with (go_at_call 15; refine HC.out.mono ?_; rintro e w1 ⟨ok, rfl, hok, hg1, m1, hk1, hv1⟩; obtain rfl : ok = false := by rw [hok, ho]; rfl
                         clear hok hv1)
            go_ret
            refine Ordered.no ?_ (hM.grow.trans hg1 (fun j e => .inl e)) (hk1.avoid fun b hb => .inl (.inl hb))
            rw [HL.out.2.1]
            unfold stepF
            rw [HR.out.2 (by rw [HR.out.1]; exact ho)]
          | some l =>
            go_wp2_with (fail)
            refine HC.out.mono ?_
            rintro e w1 ⟨ok, rfl, hok, hg1, m2, hk1, hv1⟩
            obtain rfl : ok = true := by rw [hok, ho]; rfl
            clear hok
            obtain ⟨val, hval⟩ := hv1 rfl
            clear hv1
            obtain ⟨y', l', hyl, ho', hl', hr'⟩ := hk1.has _ _ hval
            obtain rfl : y = y' := by omega
            obtain rfl : l = l' := by rw [ho] at ho'; exact Option.some.inj ho'
            have hr' := RInts.good.wider (T := fun b => b ≠ r ∧ ¬ (X b ∨ u7.ownBlock = some b) ∧ b < w1.heap.size) (fun b hb => ⟨fun e => hb.1 (.inl e), fun e => hb.1 (.inr e), hb.2.2⟩) hr'.reads
            obtain ⟨ad, capv, rfl⟩ := hr'.notNil hl'
            obtain ⟨cs, hown, hcs⟩ := hM.own.own
            have hown1 := hown.kept hg1 (by
              cases hv : u7.ownBlock with
              | none => exact .inl rfl
              | some z => exact .inr (fun e => by have := hM.own.lv z hv; simp only [Option.some.injEq] at e; omega))
            have hlen : cs.length = ls.length := by obtain ⟨_, _, _, _, _, h⟩ := own_form hown; exact h
            have hlk : ls.length = k := hM.len
            have hrl := nodup_len c row HL.out.2.2.1.1 HL.out.2.2.1.2
            have hbig : ls.length + 1 ≤ maxLen := by unfold maxLen; omega
            have hbig2 : (ls.length + 1) * 24 ≤ 140737488355328 := by omega
            have hBw : w.heap.size ≤ w1.heap.size := Nat.le_trans hM.grow.size hg1.size
            clear ho' hyl
            have HO := Lib.hid (And.intro ho (And.intro hlen hlk)); clear ho hlen hlk
            go_wp2_with (first
              | (at_lookup; refine wpl_mapLook rfl _ _ 38 rfl Try.underlying38 Try.underlying3 (zeroRow _) hk1.map rfl rfl ?_; rw [hval]; simp only [Option.getD_some])
              | (at_builtin; refine wpl_append rfl _ _ 22 rfl 24 (.slice none 0 0) 1 24 Try.underlying22 Try.infoRow rfl (by decide) (hown1.alloc _) rfl (Src.one (cell_new _ _ _) rfl) rfl hbig hbig2 (by simp; omega) ?_; intro lv' w2 hown2 hg2 hblk))
            go_roundg g
            case measure => omega
            case rel =>
              refine ⟨k + 1, ls ++ [l], by omega, by go_num, hM.push hlt hg1 hk1 hr' hcs HO.out.2.1 hown2 hg2 hblk hkr ?_⟩
              rw [HR.out.1]; exact HO.out.1
end Go.Proofs.Ythmhcpfplmhgnaa
