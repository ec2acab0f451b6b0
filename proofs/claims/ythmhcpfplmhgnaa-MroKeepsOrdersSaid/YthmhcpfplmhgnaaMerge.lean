/- merge of package mro: what it answers, and that it writes to the outer row of its argument alone. -/
import Derived.Test.YthmhcpfplmhgnaaMergeF
import Derived.Test.YthmhcpfplmhgnaaMem
import Derived.Deep.LoopGhost
import Derived.Deep.QuietTactic
import Derived.BigQuiet
namespace Go.Proofs.Ythmhcpfplmhgnaa
open Go.ChangeShapes Go.WideShapes Go.ChangeAt Go.RowKit
set_option linter.unusedSimpArgs false
set_option linter.unusedVariables false

theorem Try.infoInt : (Try.prog.info? 3).map (fun i => (i.zero, i.size, i.bytes)) = some (some (.int .i64 0), 1, 8) := by kernel_rfl
theorem Try.infoRow : (Try.prog.info? 24).map (fun i => (i.zero, i.size, i.bytes)) = some (some (.slice none 0 0), 1, 24) := by kernel_rfl

/-- An owned row of slices that reads as these lists; the lists' own cells lie in S, and the row does not. -/
structure Lists (S : Nat → Prop) (base : Nat) (v : Value) (ls : List (List Int)) (w : World) : Prop where
  own : ∃ cs : List Value, w.ownsRow base 24 1 v ls.length cs ∧ ∀ i (h1 : i < ls.length) (h2 : i < cs.length), RInts S w [cs[i]] ls[i]
  apart : ∀ b, S b → b < w.heap.size ∧ some b ≠ v.ownBlock
theorem Lists.reads {S : Nat → Prop} {base : Nat} {v : Value} {ls : List (List Int)} {w : World} (h : Lists S base v ls w) : RRows (fun b => S b ∨ v.ownBlock = some b) w [v] ls := by
  obtain ⟨cs, ho, hr⟩ := h.own
  exact own_reads ho rfl (fun i h1 h2 => RInts.good.wider (fun b hb => .inl hb) (hr i h1 h2)) (fun b hb => .inr hb)
theorem Lists.keep {S : Nat → Prop} {base : Nat} {v : Value} {ls : List (List Int)} {w w' : World} {row : Option Nat} (h : Lists S base v ls w) (hg : Grow row w w') (hr : row = none ∨ (∀ j, row = some j → ¬ S j ∧ v.ownBlock ≠ some j)) : Lists S base v ls w' := by
  obtain ⟨cs, ho, hrd⟩ := h.own
  refine ⟨⟨cs, ho.kept hg ?_, fun i h1 h2 => RInts.good.keep (hg.agree fun b hb => ⟨(h.apart b hb).1, ?_⟩) (hrd i h1 h2)⟩, fun b hb => ⟨Nat.lt_of_lt_of_le (h.apart b hb).1 hg.size, (h.apart b hb).2⟩⟩
  · rcases hr with rfl | hr
    · cases hv : v.ownBlock with
      | none => exact .inl rfl
      | some k => exact .inr (by simp)
    · cases hv : v.ownBlock with
      | none => exact .inl rfl
      | some k => exact .inr (fun e => (hr k e.symm).2 hv)
  · rcases hr with rfl | hr
    · simp
    · intro e; exact (hr b e.symm).1 hb

theorem Lists.at {S : Nat → Prop} {base n cap : Nat} {a : Option Addr} {ls : List (List Int)} {w : World} (h : Lists S base (.slice a n cap) ls w) (k : Nat) (hk : k < ls.length) :
    ∃ g, a = some ⟨g, 0, none⟩ ∧ g < w.heap.size ∧ ¬ S g ∧ w.frozen? ⟨g, k, none⟩ = false ∧ ∃ u, w.cell? ⟨g, k, none⟩ = some u ∧ RInts S w [u] ls[k] := by
  obtain ⟨cs, ho, hr⟩ := h.own
  obtain ⟨g, cap', hv, hb, hlt, _, _, hf, hc, hcell⟩ := own_cell ho k hk
  simp only [Value.slice.injEq] at hv
  obtain ⟨rfl, _, _⟩ := hv
  exact ⟨g, rfl, hlt, fun hs => (h.apart g hs).2 rfl, hf, cs[k], hcell, hr k hk hc⟩
theorem Lists.set {S : Nat → Prop} {base n cap g : Nat} {ls : List (List Int)} {w : World} (h : Lists S base (.slice (some ⟨g, 0, none⟩) n cap) ls w) (k : Nat) {u : Value} {l : List Int} (hu : RInts S w [u] l) :
    Lists S base (.slice (some ⟨g, 0, none⟩) n cap) (ls.set k l) (w.setCell ⟨g, k, none⟩ u) ∧ Grow (some g) w (w.setCell ⟨g, k, none⟩ u) := by
  obtain ⟨cs, ho, hr⟩ := h.own
  have hn : n = ls.length := by obtain ⟨_, _, hv, _⟩ := own_form ho; simp only [Value.slice.injEq] at hv; exact hv.2.1
  subst hn
  obtain ⟨h1, h2⟩ := own_set ho k u
  have hA : Agree S w (w.setCell ⟨g, k, none⟩ u) := h2.agree fun b hb => h.apart b hb
  refine ⟨⟨⟨cs.set k u, by rw [List.length_set]; exact h1, fun i hi hi' => ?_⟩, fun b hb => ⟨Nat.lt_of_lt_of_le (h.apart b hb).1 h2.size, (h.apart b hb).2⟩⟩, h2⟩
  simp only [List.getElem_set]
  by_cases e : k = i
  · subst e; simp only [if_true]; exact RInts.good.keep hA hu
  · simp only [if_neg e]
    exact RInts.good.keep hA (hr i (by simpa using hi) (by simpa using hi'))
theorem Lists.quiet {S : Nat → Prop} {base : Nat} {v : Value} {ls : List (List Int)} {w w' : World} (h : Lists S base v ls w) (hq : Quiet w w') : Lists S base v ls w' := by
  obtain ⟨n, rfl⟩ := hq
  exact h.keep ((Grow.refl none w).drewN n) (.inl rfl)

theorem pick_skip {ls : List (List Int)} {k : Nat} (hk : k < ls.length) (hp : pickF ls ls = pickF ls (ls.drop k)) (hc : candF ls ls[k] = none) : pickF ls ls = pickF ls (ls.drop (k + 1)) := by
  rw [hp, List.drop_eq_getElem_cons hk, pickF, hc]
theorem pick_here {ls : List (List Int)} {k : Nat} {c : Int} (hk : k < ls.length) (hp : pickF ls ls = pickF ls (ls.drop k)) (hc : candF ls ls[k] = some c) : pickF ls ls = some c := by
  rw [hp, List.drop_eq_getElem_cons hk, pickF, hc]
theorem noneLeft_take (ls : List (List Int)) (k : Nat) (hk : k < ls.length) : noneLeft (ls.take (k + 1)) = (noneLeft (ls.take k) && ls[k].isEmpty) := by
  unfold noneLeft; rw [List.take_succ_eq_append_getElem hk, List.all_append]; simp
/-- The lists, cut at their heads as far as the j-th. -/
def cutTo (c : Int) (j : Nat) (ls : List (List Int)) : List (List Int) := (ls.take j).map (cutF c) ++ ls.drop j
theorem cutTo_len (c : Int) (j : Nat) (ls : List (List Int)) (hj : j ≤ ls.length) : (cutTo c j ls).length = ls.length := by simp [cutTo]; omega
theorem cutTo_at (c : Int) (j : Nat) (ls : List (List Int)) (hj : j < ls.length) (h : j < (cutTo c j ls).length) : (cutTo c j ls)[j] = ls[j] := by
  simp only [cutTo]
  rw [List.getElem_append_right (by simp; omega)]
  simp [show min j ls.length = j from by omega]
theorem cutTo_succ (c : Int) (j : Nat) (ls : List (List Int)) (hj : j < ls.length) : cutTo c (j + 1) ls = (cutTo c j ls).set j (cutF c ls[j]) := by
  unfold cutTo
  rw [List.take_succ_eq_append_getElem hj, List.map_append, List.set_append_right _ _ (by simp; omega)]
  simp only [List.length_map, List.length_take, show min j ls.length = j from by omega, Nat.sub_self]
  rw [List.drop_eq_getElem_cons hj]
  simp only [List.set_cons_zero, List.append_assoc, List.singleton_append, List.map_cons, List.map_nil]
theorem cutTo_all (c : Int) (ls : List (List Int)) : cutTo c ls.length ls = ls.map (cutF c) := by simp [cutTo]
theorem cutF_same {c : Int} {l : List Int} (h : ∀ x, l.head? = some x → x ≠ c) : cutF c l = l := by
  cases l with
  | nil => rfl
  | cons x t => simp only [cutF]; rw [if_neg (h x rfl)]

set_option maxHeartbeats 1600000 in
set_option maxRecDepth 100000 in
theorem merge_any (S : Nat → Prop) (base : Nat) (v : Value) (ls : List (List Int)) (w : World) (h : Lists S base v ls w) (hsmall : total ls ≤ 1000000) (hn : ls.length ≤ 1000000) :
    Calls Try.prog 19 #[v] w fun e w' => ∃ (u : Value) (b : Bool), e = .returned (.tuple #[u, .bool b]) ∧ b = (mergeL ls).2 ∧
      (∃ l : List Int, w'.ownsRow w.heap.size 3 1 u l.length (l.map (Value.int .i64)) ∧ l = (mergeL ls).1) ∧ Grow v.ownBlock w w' := by
  obtain ⟨a, cap, hv, hcap, hmax⟩ := h.reads.form
  unfold maxLen at hmax
  subst hv
  have hvb : ∀ j, (Value.slice a ls.length cap).ownBlock = some j → j < w.heap.size := by
    obtain ⟨cs, ho, _⟩ := h.own
    exact fun j hj => (ho.lt j hj).2
  go_enter Try.func19, Try.ntmps19
  go_wp2
  go_step3
  go_wp2
  go_step3
  go_wp2
  go_loopg [4] (total ls) (fun g out wr => ∃ (cur : List (List Int)) (acc : List Int), g = total cur ∧ cur.length = ls.length ∧ Lists S base (.slice a ls.length cap) cur wr ∧ Grow (Value.slice a ls.length cap).ownBlock w wr ∧
    wr.ownsRow w.heap.size 3 1 out acc.length (acc.map (Value.int .i64)) ∧ Aside (mergeL ls = (acc ++ (mergeL cur).1, (mergeL cur).2) ∧ acc.length + total cur ≤ total ls))
  case atStart => exact ⟨ls, [], rfl, rfl, h, Grow.refl _ _, World.ownsRow_nil _ _ _ _, rfl, by simp⟩
  case round =>
    generalize hout : u4 = out at *
    obtain ⟨cur, acc, rfl, hlen, hL, hG, hO, HM⟩ := hrel
    go_wp2
    go_step3
    go_wp2
    go_step3
    go_wp2
    go_loopg [4, 5, 15] ls.length (fun g2 out' left i wx => ∃ k : Nat, k + g2 = ls.length ∧ out' = out ∧ i = .int .i64 k ∧ left = .bool (!noneLeft (cur.take k)) ∧ Quiet wr wx ∧ Aside (pickF cur cur = pickF cur (cur.drop k)))
    case atStart => exact ⟨0, by omega, rfl, rfl, by simp [noneLeft], Quiet.refl _, rfl⟩
    case round =>
      obtain ⟨k, hk, rfl, rfl, rfl, ⟨q, rfl⟩, HP⟩ := hrel
      cases gk with
      | zero =>
        have hkz : ¬ ((k : Int) < (ls.length : Int)) := by omega
        go_wp2
        go_ret2
        have hkl : k = cur.length := by omega
        have hp : pickF cur cur = none := by rw [HP.out, hkl, List.drop_length]; rfl
        have hm := mergeL_none hp
        have ht : cur.take k = cur := by rw [hkl, List.take_length]
        refine ⟨_, _, rfl, ?_, ⟨acc, own_drewN hO q, ?_⟩, hG.drewN q⟩
        · rw [HM.out.1, hm, ht]
        · rw [HM.out.1, hm]; simp
      | succ g2 =>
        have hkz : (k : Int) < (ls.length : Int) := by omega
        have hkc : k < cur.length := by omega
        obtain ⟨b, rfl, hb, hnb, hfz, u, hc, hu⟩ := hL.at k hkc
        obtain ⟨a', cap', rfl, hcap', hmax'⟩ := hu.form
        unfold maxLen at hmax'
        have hnl := noneLeft_take cur k hkc
        generalize hl : cur[k] = l at *
        have HL := Lib.hid hl; clear hl
        have HNL := Lib.hid hnl; clear hnl
        by_cases hz : l.length = 0
        · have hz' : ((l.length : Int) == 0) = true := by simp [hz]
          have hlz : l = [] := List.length_eq_zero_iff.1 hz
          have HZ := Lib.hid hlz; clear hlz hz
          go_wp2
          go_roundg g2
          case measure => omega
          case rel => exact ⟨k + 1, by omega, rfl, by go_num, by rw [HNL.out, HZ.out]; simp, (Quiet.drewN _ _), pick_skip hkc HP.out (by rw [HL.out, HZ.out]; rfl)⟩
        · have hz' : ((l.length : Int) == 0) = false := by simp [hz]
          have hlp : 0 < l.length := by omega
          clear hz
          obtain ⟨b', o', hb', rfl, hx', hc', h1, h2⟩ := RInts.get hu 0 hlp
          simp only [Nat.add_zero] at hc'
          have hcd : candF cur l = if cur.any (fun o => tailF o l[0]) then none else some l[0] := by
            cases l with
            | nil => simp at hlp
            | cons x t => rfl
          have hem : l.isEmpty = false := by cases l with
            | nil => simp at hlp
            | cons x t => rfl
          have hhd : l.head? = some l[0] := by cases l with
            | nil => simp at hlp
            | cons x t => rfl
          generalize hc0 : l[0] = c at *
          have HC := Lib.hid (And.intro hc0 (And.intro hcd (And.intro hem hhd))); clear hc0 hcd hem hhd
          go_wp2
          go_loopg [24] ls.length (fun g3 i wy => ∃ j : Nat, j + g3 = ls.length ∧ i = .int .i64 j ∧ Quiet wr wy ∧ Aside ((cur.take j).any (fun o => tailF o c) = false))
          case atStart => exact ⟨0, by omega, rfl, Quiet.drewN _ _, rfl⟩
          case round =>
            obtain ⟨j, hj, rfl, ⟨q3, rfl⟩, HA⟩ := hrel
            cases gk with
            | zero =>
              have hjz : ¬ ((j : Int) < (ls.length : Int)) := by omega
              have hany : cur.any (fun o => tailF o c) = false := by
                have := HA.out; rw [show j = cur.length from by omega, List.take_length] at this; exact this
              have hpk : pickF cur cur = some c := pick_here hkc HP.out (by rw [HL.out, HC.out.2.1, hany]; rfl)
              have HPK := Lib.hid hpk; clear hpk
              have HANY := Lib.hid hany; clear hany
              have hal : acc.length ≤ 1000000 := by have := HM.out.2; omega
              have htp := total_pick HPK.out
              have hmx : acc.length + 1 ≤ maxLen := by unfold maxLen; omega
              have hBw : w.heap.size ≤ wr.heap.size := hG.size
              go_wp2_with (at_builtin; refine wpl_push rfl _ _ 24 rfl 3 (.int .i64 0) 8 Try.underlying24 Try.infoInt rfl ((own_drewN hO _).alloc _) rfl (.int .i64 c) _ rfl (cell_new _ _ _) rfl hmx (by omega) (by simp; omega) ?_; intro out' w1 hown' hgrow)
              have hL1 : Lists S base (.slice (some ⟨b, 0, none⟩) ls.length cap) cur w1 :=
                ((hL.quiet (Quiet.drewN _ _)).keep ((Grow.refl none _).alloc _) (.inl rfl)).keep hgrow (.inr fun x hx => ⟨fun hs => by have := ownBlock_ge hO x hx; have := (h.apart x hs).1; omega, fun e => by have := ownBlock_ge hO x hx; have := hvb x e; omega⟩)
              have hG1 : Grow (some b) w w1 := ((hG.drewN q3).alloc _).trans hgrow (fun x hx => .inr (ownBlock_ge hO x hx))
              have hO1 : w1.ownsRow w.heap.size 3 1 out' (acc ++ [c]).length ((acc ++ [c]).map (Value.int .i64)) := by simpa using hown'
              clear hown' hgrow
              go_loopg [43] ls.length (fun g4 i wz => ∃ t : Nat, t + g4 = ls.length ∧ i = .int .i64 t ∧ Lists S base (.slice (some ⟨b, 0, none⟩) ls.length cap) (cutTo c t cur) wz ∧ Grow (some b) w wz ∧
                wz.ownsRow w.heap.size 3 1 out' (acc ++ [c]).length ((acc ++ [c]).map (Value.int .i64)))
              case atStart => exact ⟨0, by omega, rfl, by simpa [cutTo] using hL1, hG1, hO1⟩
              case round =>
                clear hL1 hG1 hO1
                obtain ⟨t, ht, rfl, hLt, hGt, hOt⟩ := hrel
                cases gk with
                | zero =>
                  have htz : ¬ ((t : Int) < (ls.length : Int)) := by omega
                  go_wp2
                  go_roundg (total (cur.map (cutF c)))
                  case measure => exact htp
                  case rel =>
                    refine ⟨cur.map (cutF c), acc ++ [c], rfl, by simp [hlen], ?_, hGt, hOt, ?_, ?_⟩
                    · rw [← cutTo_all, show cur.length = t from by omega]; exact hLt
                    · rw [HM.out.1, mergeL_some HPK.out]; simp
                    · have := HM.out.2; simp; omega
                | succ g4 =>
                  have htz : (t : Int) < (ls.length : Int) := by omega
                  have htc : t < cur.length := by omega
                  have htl : t < (cutTo c t cur).length := by rw [cutTo_len _ _ _ (by omega)]; exact htc
                  obtain ⟨b3, hb3', hb3lt, hb3n, hf3, u3', hc3, hu3⟩ := hLt.at t htl
                  obtain rfl : b = b3 := by simpa using hb3'
                  clear hb3'
                  rw [cutTo_at _ _ _ htc] at hu3
                  have hstep := cutTo_succ c t cur htc
                  generalize hrow : cur[t] = r at *
                  have HS := Lib.hid (And.intro hrow hstep); clear hrow hstep
                  obtain ⟨a3, cap3, rfl, hcap3, hmax3⟩ := hu3.form
                  unfold maxLen at hmax3
                  by_cases hr0 : 0 < r.length
                  · obtain ⟨b4, o4, hb4, rfl, hx4, hc4, h41, h42⟩ := RInts.get hu3 0 hr0
                    simp only [Nat.add_zero] at hc4
                    have hhd3 : r = r[0] :: r.drop 1 := by cases r with
                      | nil => simp at hr0
                      | cons x y => simp
                    generalize hr0' : r[0] = x at *
                    have HR := Lib.hid (And.intro hr0' hhd3); clear hr0' hhd3
                    by_cases hxc : x = c
                    · have hxc' : (x == c) = true := by simp [hxc]
                      have HX := Lib.hid hxc; clear hxc
                      obtain ⟨v', hrun, h'⟩ := hu3.low Try.underlying24 Try.size3 1 hr0
                      obtain ⟨a5, cap5, rfl, hcap5, hmax5⟩ := h'.form
                      generalize hd5 : (r.drop 1).length = n5 at *
                      clear hcap5 hmax5
                      have HD5 := Lib.hid hd5; clear hd5
                      have hr' : ∀ w', (Instr.slice 24 (.slice (some ⟨b4, o4, none⟩) r.length cap3) (some (.int .i64 1)) none none).run Try.prog w' = .ok (.slice a5 n5 cap5) w' := hrun
                      clear hrun
                      obtain ⟨hs1, hs2⟩ := hLt.set t h'
                      have HS1 := Lib.hid (And.intro hs1 hs2); clear hs1 hs2
                      go_wp2
                      go_roundg g4
                      case measure => omega
                      case rel =>
                        refine ⟨t + 1, by omega, by go_num, ?_, hGt.trans HS1.out.2 (fun j e => .inl e), (hOt.kept HS1.out.2 ?_)⟩
                        · have e : cutTo c (t + 1) cur = (cutTo c t cur).set t (r.drop 1) := by
                            rw [HS.out.2]; congr 1; rw [HR.out.2, cutF, if_pos HX.out]; simp
                          rw [e]; exact HS1.out.1
                        · cases ho : out'.ownBlock with
                          | none => exact .inl rfl
                          | some y => exact .inr (fun e => by
                              have := ownBlock_ge hOt y ho
                              simp only [Option.some.injEq] at e
                              have := hvb y (by rw [e]; rfl)
                              omega)
                    · have hxc' : (x == c) = false := by simp [hxc]
                      go_wp2
                      go_roundg g4
                      case measure => omega
                      case rel =>
                        refine ⟨t + 1, by omega, by go_num, ?_, hGt, hOt⟩
                        have e : cutTo c (t + 1) cur = cutTo c t cur := by
                          rw [HS.out.2, HR.out.2, cutF, if_neg hxc, ← HR.out.2, ← HS.out.1]
                          have := cutTo_at c t cur htc htl
                          rw [← this]; simp
                        rw [e]; exact hLt
                  · have hr0z : ¬ (0 < (r.length : Int)) := by omega
                    go_wp2
                    go_roundg g4
                    case measure => omega
                    case rel =>
                      refine ⟨t + 1, by omega, by go_num, ?_, hGt, hOt⟩
                      have hrz : r = [] := List.length_eq_zero_iff.1 (by omega)
                      have e : cutTo c (t + 1) cur = cutTo c t cur := by
                        rw [HS.out.2, hrz, cutF, ← hrz, ← HS.out.1]
                        have := cutTo_at c t cur htc htl
                        rw [← this]; simp
                      rw [e]; exact hLt
            | succ g3 =>
              have hjz : (j : Int) < (ls.length : Int) := by omega
              have hjc : j < cur.length := by omega
              obtain ⟨b2, hb2', _, _, _, u2, hc2, hu2⟩ := hL.at j hjc
              obtain rfl : b = b2 := by simpa using hb2'
              clear hb2'
              have htk : (cur.take (j + 1)).any (fun o => tailF o c) = (tailF cur[j] c || false) := by
                rw [List.take_succ_eq_append_getElem hjc, List.any_append, HA.out]; simp
              have HTK := Lib.hid htk; clear htk
              cases ht : tailF cur[j] c
              · go_wp2_with (go_at_call 22; refine (tail_any S _ _ c _ (RInts.good.keep ((Quiet.drewN _ _).agree S) hu2)).mono ?_; rintro e w' ⟨rfl, q4, rfl⟩)
                go_roundg g3
                case measure => omega
                case rel => exact ⟨j + 1, by omega, by go_num, (by first | exact Quiet.refl _ | exact Quiet.drewN _ _ | exact (Quiet.drewN _ _).more _), by show _ = _; rw [HTK.out, ht]; rfl⟩
              · go_wp2_with (go_at_call 22; refine (tail_any S _ _ c _ (RInts.good.keep ((Quiet.drewN _ _).agree S) hu2)).mono ?_; rintro e w' ⟨rfl, q4, rfl⟩)
                go_roundg g2
                case measure => omega
                case rel =>
                  refine ⟨k + 1, by omega, rfl, by go_num, by rw [HNL.out, HC.out.2.2.1]; simp, (by first | exact Quiet.refl _ | exact Quiet.drewN _ _ | exact (Quiet.drewN _ _).more _), pick_skip hkc HP.out ?_⟩
                  rw [HL.out, HC.out.2.1, if_pos]
                  exact List.any_eq_true.2 ⟨cur[j], List.getElem_mem _, ht⟩
end Go.Proofs.Ythmhcpfplmhgnaa
