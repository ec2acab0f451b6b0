/- The reference's first and merge, by the same functions of lists. -/
import Derived.Test.YthmhcpfplmhgnaaMerge
namespace Go.Proofs.Ythmhcpfplmhgnaa
open Go.ChangeShapes Go.WideShapes Go.ChangeAt Go.RowKit
set_option linter.unusedSimpArgs false
set_option linter.unusedVariables false

def firstF (ls : List (List Int)) : Int := (pickF ls ls).getD (-1)
theorem firstF_some {ls : List (List Int)} {c : Int} (h : pickF ls ls = some c) : c = firstF ls := by simp [firstF, h]
theorem firstF_none {ls : List (List Int)} (h : pickF ls ls = none) : -1 = firstF ls := by simp [firstF, h]
theorem tailF_drop (l : List Int) (c : Int) : hasF c l.tail = tailF l c := rfl

set_option maxHeartbeats 1600000 in
set_option maxRecDepth 100000 in
theorem first_any (S : Nat → Prop) (v : Value) (ls : List (List Int)) (w : World) (h : RRows S w [v] ls) :
    Calls Try.prog 23 #[v] w fun e w' => e = .returned (.int .i64 (firstF ls)) ∧ Quiet w w' := by
  obtain ⟨a, cap, rfl, hcap, hmax⟩ := h.form
  unfold maxLen at hmax
  go_enter Try.func23, Try.ntmps23
  go_wp2
  go_loopg [3] ls.length (fun g i wr => ∃ k : Nat, k + g = ls.length ∧ i = .int .i64 k ∧ Quiet w wr ∧ Aside (pickF ls ls = pickF ls (ls.drop k)))
  case atStart => exact ⟨0, by omega, rfl, (by first | exact Quiet.refl _ | exact Quiet.drewN _ _ | exact (Quiet.drewN _ _).more _), rfl⟩
  case round =>
    obtain ⟨k, hk, rfl, ⟨q, rfl⟩, HP⟩ := hrel
    cases gk with
    | zero =>
      have hkz : ¬ ((k : Int) < (ls.length : Int)) := by omega
      go_wp2
      go_ret
      exact ⟨ret_int (firstF_none (by rw [HP.out, show k = ls.length from by omega, List.drop_length]; rfl)), (by first | exact Quiet.refl _ | exact Quiet.drewN _ _ | exact (Quiet.drewN _ _).more _)⟩
    | succ g2 =>
      have hkz : (k : Int) < (ls.length : Int) := by omega
      have hkc : k < ls.length := by omega
      obtain ⟨b, o, hb, rfl, hx, u, hu, hc⟩ := h.get1 k hkc
      obtain ⟨a', cap', rfl, hcap', hmax'⟩ := hu.form
      unfold maxLen at hmax'
      generalize hl : ls[k] = l at *
      have HL := Lib.hid hl; clear hl
      by_cases hz : l.length = 0
      · have hz' : ((l.length : Int) == 0) = true := by simp [hz]
        have hlz : l = [] := List.length_eq_zero_iff.1 hz
        have HZ := Lib.hid hlz; clear hlz hz
        go_wp2
        go_roundg g2
        case measure => omega
        case rel => exact ⟨k + 1, by omega, by go_num, (by first | exact Quiet.refl _ | exact Quiet.drewN _ _ | exact (Quiet.drewN _ _).more _), pick_skip hkc HP.out (by rw [HL.out, HZ.out]; rfl)⟩
      · have hz' : ((l.length : Int) == 0) = false := by simp [hz]
        have hlp : 0 < l.length := by omega
        have hlpz : (0 : Int) < (l.length : Int) := by omega
        clear hz
        obtain ⟨b', o', hb', rfl, hx', hc', h1, h2⟩ := RInts.get hu 0 hlp
        simp only [Nat.add_zero] at hc'
        have hcd : candF ls l = if ls.any (fun o => tailF o l[0]) then none else some l[0] := by
          cases l with
          | nil => simp at hlp
          | cons x t => rfl
        generalize hc0 : l[0] = c at *
        have HC := Lib.hid (And.intro hc0 hcd); clear hc0 hcd
        go_wp2
        go_loopg [4, 5] ls.length (fun g3 fr i wy => ∃ (j : Nat) (fb : Bool), j + g3 = ls.length ∧ i = .int .i64 j ∧ fr = .bool fb ∧ Aside (fb = !(ls.take j).any (fun o => tailF o c)) ∧ Quiet w wy)
        case atStart => exact ⟨0, true, by omega, rfl, rfl, rfl, (by first | exact Quiet.refl _ | exact Quiet.drewN _ _ | exact (Quiet.drewN _ _).more _)⟩
        case round =>
          obtain ⟨j, fb, hj, rfl, rfl, HF, hq⟩ := hrel
          cases gk with
          | zero =>
            have hjz : ¬ ((j : Int) < (ls.length : Int)) := by omega
            have hall : ls.take j = ls := by rw [show j = ls.length from by omega, List.take_length]
            have HALL := Lib.hid hall; clear hall
            obtain ⟨q3, rfl⟩ := hq
            cases fb
            · go_wp2
              go_roundg g2
              case measure => omega
              case rel => exact ⟨k + 1, by omega, by go_num, (by first | exact Quiet.refl _ | exact Quiet.drewN _ _ | exact (Quiet.drewN _ _).more _), pick_skip hkc HP.out (by
                have hany := HF.out; rw [HALL.out] at hany
                rw [HL.out, HC.out.2, if_pos (by simpa using hany)])⟩
            · go_wp2
              go_ret
              exact ⟨ret_int (firstF_some (pick_here hkc HP.out (by
                have hany := HF.out; rw [HALL.out] at hany
                rw [HL.out, HC.out.2, if_neg (by simpa using hany)]))), (by first | exact Quiet.refl _ | exact Quiet.drewN _ _ | exact (Quiet.drewN _ _).more _)⟩
          | succ g3 =>
            have hjz : (j : Int) < (ls.length : Int) := by omega
            have hjc : j < ls.length := by omega
            obtain ⟨b2, o2, _, hb2', _, u2, hu2, hc2⟩ := h.get1 j hjc
            obtain ⟨rfl, rfl⟩ : b = b2 ∧ o = o2 := by simpa using hb2'
            clear hb2'
            have htk : (ls.take (j + 1)).any (fun o => tailF o c) = ((ls.take j).any (fun o => tailF o c) || tailF ls[j] c) := by
              rw [List.take_succ_eq_append_getElem hjc, List.any_append]; simp
            have HTK := Lib.hid htk; clear htk
            have hp := tailF_drop ls[j] c
            have hu2' := RInts.good.keep (hq.agree S) hu2
            have e1 := (hq.cell ⟨b, o + k, none⟩).trans hc
            have e2 := (hq.cell ⟨b', o', none⟩).trans hc'
            have e3 := (hq.cell ⟨b, o + j, none⟩).trans hc2
            generalize ls[j] = r at *
            cases fb
            · go_wp2_with fail
              go_quiet (fail)
              go_wp2
              go_roundg g3
              case measure => omega
              case rel => exact ⟨j + 1, false, by omega, by go_num, rfl, by show _ = _; rw [HTK.out, Bool.not_or, ← HF.out]; rfl, hq.more _⟩
            · cases ht : tailF r c
              · rw [ht] at hp
                go_wp2_with fail
                go_quiet ((go_at_call 11; exact Calls.quiet_of (has_any S u2 r 1 c _ (RInts.good.keep ((Quiet.drewN _ _).agree S) hu2') (by decide))))
                go_wp2
                go_roundg g3
                case measure => omega
                case rel => exact ⟨j + 1, true, by omega, by go_num, rfl, by show _ = _; rw [HTK.out, Bool.not_or, ← HF.out, ht]; rfl, hq.more _⟩
              · rw [ht] at hp
                go_wp2_with fail
                go_quiet ((go_at_call 11; exact Calls.quiet_of (has_any S u2 r 1 c _ (RInts.good.keep ((Quiet.drewN _ _).agree S) hu2') (by decide))))
                go_wp2
                go_roundg g3
                case measure => omega
                case rel => exact ⟨j + 1, false, by omega, by go_num, rfl, by show _ = _; rw [HTK.out, Bool.not_or, ← HF.out, ht]; rfl, hq.more _⟩

theorem pick_pos {ls : List (List Int)} (hpos : ∀ l ∈ ls, ∀ x ∈ l, (0 : Int) ≤ x) : (∃ c, pickF ls ls = some c ∧ firstF ls = c ∧ 0 ≤ c) ∨ (pickF ls ls = none ∧ firstF ls = -1) := by
  cases h : pickF ls ls with
  | none => exact .inr ⟨rfl, by simp [firstF, h]⟩
  | some c =>
    obtain ⟨t, ht, _⟩ := pickF_mem h
    exact .inl ⟨c, rfl, by simp [firstF, h], hpos _ ht c (by simp)⟩
theorem cut_pos {ls : List (List Int)} (c : Int) (hpos : ∀ l ∈ ls, ∀ x ∈ l, (0 : Int) ≤ x) : ∀ l ∈ ls.map (cutF c), ∀ x ∈ l, (0 : Int) ≤ x := by
  intro l hl x hx
  obtain ⟨l', hl', rfl⟩ := List.mem_map.1 hl
  refine hpos l' hl' x ?_
  cases l' with
  | nil => simp [cutF] at hx
  | cons y t =>
    simp only [cutF] at hx
    split at hx
    · exact List.mem_cons_of_mem _ hx
    · exact hx
theorem noneLeft_false {ls : List (List Int)} {k : Nat} (hk : k < ls.length) (h : 0 < ls[k].length) : noneLeft ls = false := by
  unfold noneLeft
  rw [List.all_eq_false]
  exact ⟨ls[k], List.getElem_mem _, by simp; intro e; rw [e] at h; simp at h⟩

def RMerged (v : Value) (ls : List (List Int)) (w : World) (e : Ending) (w' : World) : Prop := ∃ (u : Value) (b : Bool), e = .returned (.tuple #[u, .bool b]) ∧ b = (mergeL ls).2 ∧
  (b = true → ∃ l : List Int, w'.ownsRow w.heap.size 3 1 u l.length (l.map (Value.int .i64)) ∧ l = (mergeL ls).1) ∧ Grow v.ownBlock w w'
theorem RMerged.yes {v u : Value} {ls : List (List Int)} {l : List Int} {w w' : World} (hb : (mergeL ls).2 = true) (hl : (mergeL ls).1 = l) (ho : w'.ownsRow w.heap.size 3 1 u l.length (l.map (Value.int .i64))) (hg : Grow v.ownBlock w w') :
    RMerged v ls w (.returned (.tuple #[u, .bool true])) w' := ⟨u, true, rfl, hb.symm, fun _ => ⟨l, ho, hl.symm⟩, hg⟩
theorem RMerged.no {v u : Value} {ls : List (List Int)} {w w' : World} (hb : (mergeL ls).2 = false) (hg : Grow v.ownBlock w w') :
    RMerged v ls w (.returned (.tuple #[u, .bool false])) w' := ⟨u, false, rfl, hb.symm, fun h => (by cases h), hg⟩

set_option maxHeartbeats 1600000 in
set_option maxRecDepth 100000 in
theorem rmerge_any (S : Nat → Prop) (base : Nat) (v : Value) (ls : List (List Int)) (w : World) (h : Lists S base v ls w) (hsmall : total ls ≤ 1000000) (hn : ls.length ≤ 1000000) (hpos : ∀ l ∈ ls, ∀ x ∈ l, (0 : Int) ≤ x) :
    Calls Try.prog 20 #[v] w (RMerged v ls w) := by
  obtain ⟨a, cap, hv, hcap, hmax⟩ := h.reads.form
  unfold maxLen at hmax
  subst hv
  have hvb : ∀ j, (Value.slice a ls.length cap).ownBlock = some j → j < w.heap.size := by
    obtain ⟨cs, ho, _⟩ := h.own
    exact fun j hj => (ho.lt j hj).2
  have HPOS := Lib.hid hpos; clear hpos
  go_enter Try.func20, Try.ntmps20
  go_wp2
  go_loopg [4] (total ls) (fun g out wr => ∃ (cur : List (List Int)) (acc : List Int), g = total cur ∧ cur.length = ls.length ∧ Lists S base (.slice a ls.length cap) cur wr ∧ Grow (Value.slice a ls.length cap).ownBlock w wr ∧
    wr.ownsRow w.heap.size 3 1 out acc.length (acc.map (Value.int .i64)) ∧ Aside (mergeL ls = (acc ++ (mergeL cur).1, (mergeL cur).2) ∧ acc.length + total cur ≤ total ls ∧ ∀ l ∈ cur, ∀ x ∈ l, (0 : Int) ≤ x))
  case atStart => exact ⟨ls, [], rfl, rfl, h, Grow.refl _ _, World.ownsRow_nil _ _ _ _, rfl, by simp, HPOS.out⟩
  case round =>
    obtain ⟨cur, acc, rfl, hlen, hL, hG, hO, HM⟩ := hrel
    rcases pick_pos HM.out.2.2 with ⟨c, hp, hf, hc0⟩ | ⟨hp, hf⟩
    · have HPK := Lib.hid hp; clear hp
      have HF := Lib.hid hf; clear hf
      have hal : acc.length ≤ 1000000 := by have := HM.out.2.1; omega
      have htp := total_pick HPK.out
      have hmx : acc.length + 1 ≤ maxLen := by unfold maxLen; omega
      have hBw : w.heap.size ≤ wr.heap.size := hG.size
      go_wp2_with (first
        | (go_at_call 23; refine (first_any _ _ cur _ hL.reads).mono ?_; rw [HF.out]; rintro e w' ⟨rfl, q, rfl⟩)
        | (at_builtin; refine wpl_push rfl _ _ 24 rfl 3 (.int .i64 0) 8 Try.underlying24 Try.infoInt rfl ((own_drewN hO _).alloc _) rfl (.int .i64 c) _ rfl (cell_new _ _ _) rfl hmx (by omega) (by simp; omega) ?_; intro out' w1 hown' hgrow))
      have hL1 : Lists S base (.slice a ls.length cap) cur w1 :=
        ((hL.quiet (Quiet.drewN _ _)).keep ((Grow.refl none _).alloc _) (.inl rfl)).keep hgrow (.inr fun x hx => ⟨fun hs => by have := ownBlock_ge hO x hx; have := (h.apart x hs).1; omega, fun e => by have := ownBlock_ge hO x hx; have := hvb x e; omega⟩)
      have hG1 : Grow (Value.slice a ls.length cap).ownBlock w w1 := ((hG.drewN q).alloc _).trans hgrow (fun x hx => .inr (ownBlock_ge hO x hx))
      have hO1 : w1.ownsRow w.heap.size 3 1 out' (acc ++ [c]).length ((acc ++ [c]).map (Value.int .i64)) := by simpa using hown'
      clear hown' hgrow
      go_loopg [6] ls.length (fun g4 i wz => ∃ t : Nat, t + g4 = ls.length ∧ i = .int .i64 t ∧ Lists S base (.slice a ls.length cap) (cutTo c t cur) wz ∧ Grow (Value.slice a ls.length cap).ownBlock w wz ∧
        wz.ownsRow w.heap.size 3 1 out' (acc ++ [c]).length ((acc ++ [c]).map (Value.int .i64)))
      case atStart => exact ⟨0, by omega, rfl, by simpa [cutTo] using hL1, hG1, hO1⟩
      case round =>
        clear hL1 hG1 hO1
        obtain ⟨t, ht, rfl, hLt, hGt, hOt⟩ := hrel
        cases gk with
        | zero =>
          have htz : ¬ ((t : Int) < (ls.length : Int)) := by omega
          go_wp2
          go_roundg (total (cur.map (cutF c)))
          case measure => exact htp
          case rel =>
            refine ⟨cur.map (cutF c), acc ++ [c], rfl, by simp [hlen], ?_, hGt, hOt, ?_, ?_, cut_pos c HM.out.2.2⟩
            · rw [← cutTo_all, show cur.length = t from by omega]; exact hLt
            · rw [HM.out.1, mergeL_some HPK.out]; simp
            · have := HM.out.2.1; simp; omega
        | succ g4 =>
          have htz : (t : Int) < (ls.length : Int) := by omega
          have htc : t < cur.length := by omega
          have htl : t < (cutTo c t cur).length := by rw [cutTo_len _ _ _ (by omega)]; exact htc
          obtain ⟨b, rfl, hb3lt, hb3n, hf3, u3', hc3, hu3⟩ := hLt.at t htl
          rw [cutTo_at _ _ _ htc] at hu3
          have hstep := cutTo_succ c t cur htc
          generalize hrow : cur[t] = r at *
          have HS := Lib.hid (And.intro hrow hstep); clear hrow hstep
          obtain ⟨a3, cap3, rfl, hcap3, hmax3⟩ := hu3.form
          unfold maxLen at hmax3
          by_cases hr0 : 0 < r.length
          · obtain ⟨b4, o4, hb4, rfl, hx4, hc4, h41, h42⟩ := RInts.get hu3 0 hr0
            simp only [Nat.add_zero] at hc4
            have hhd3 : r = r[0] :: r.drop 1 := by cases r with
              | nil => simp at hr0
              | cons x y => simp
            generalize hr0' : r[0] = x at *
            have HR := Lib.hid (And.intro hr0' hhd3); clear hr0' hhd3
            by_cases hxc : x = c
            · have hxc' : (x == c) = true := by simp [hxc]
              have HX := Lib.hid hxc; clear hxc
              obtain ⟨v', hrun, h'⟩ := hu3.low Try.underlying24 Try.size3 1 hr0
              obtain ⟨hs1, hs2⟩ := hLt.set t h'
              obtain ⟨a5, cap5, rfl, hcap5, hmax5⟩ := h'.form
              generalize hd5 : (r.drop 1).length = n5 at *
              clear hcap5 hmax5
              have HD5 := Lib.hid hd5; clear hd5
              have hr' : ∀ w', (Instr.slice 24 (.slice (some ⟨b4, o4, none⟩) r.length cap3) (some (.int .i64 1)) none none).run Try.prog w' = .ok (.slice a5 n5 cap5) w' := hrun
              clear hrun
              have HS1 := Lib.hid (And.intro hs1 hs2); clear hs1 hs2
              go_wp2
              go_roundg g4
              case measure => omega
              case rel =>
                refine ⟨t + 1, by omega, by go_num, ?_, hGt.trans HS1.out.2 (fun j e => .inl e), (hOt.kept HS1.out.2 ?_)⟩
                · have e : cutTo c (t + 1) cur = (cutTo c t cur).set t (r.drop 1) := by
                    rw [HS.out.2]; congr 1; rw [HR.out.2, cutF, if_pos HX.out]; simp
                  rw [e]; exact HS1.out.1
                · cases ho : out'.ownBlock with
                  | none => exact .inl rfl
                  | some y => exact .inr (fun e => by
                      have := ownBlock_ge hOt y ho
                      simp only [Option.some.injEq] at e
                      have := hvb y (by rw [e]; rfl)
                      omega)
            · have hxc' : (x == c) = false := by simp [hxc]
              go_wp2
              go_roundg g4
              case measure => omega
              case rel =>
                refine ⟨t + 1, by omega, by go_num, ?_, hGt, hOt⟩
                have e : cutTo c (t + 1) cur = cutTo c t cur := by
                  rw [HS.out.2, HR.out.2, cutF, if_neg hxc, ← HR.out.2, ← HS.out.1]
                  have := cutTo_at c t cur htc htl
                  rw [← this]; simp
                rw [e]; exact hLt
          · have hr0z : ¬ (0 < (r.length : Int)) := by omega
            go_wp2
            go_roundg g4
            case measure => omega
            case rel =>
              refine ⟨t + 1, by omega, by go_num, ?_, hGt, hOt⟩
              have hrz : r = [] := List.length_eq_zero_iff.1 (by omega)
              have e : cutTo c (t + 1) cur = cutTo c t cur := by
                rw [HS.out.2, hrz, cutF, ← hrz, ← HS.out.1]
                have := cutTo_at c t cur htc htl
                rw [← this]; simp
              rw [e]; exact hLt
    · have HPK := Lib.hid hp; clear hp
      have HF := Lib.hid hf; clear hf
      go_wp2_with (go_at_call 23; refine (first_any _ _ cur _ hL.reads).mono ?_; rw [HF.out]; rintro e w' ⟨rfl, q, rfl⟩)
      go_loopg [7] ls.length (fun g4 i wz => ∃ t : Nat, t + g4 = ls.length ∧ i = .int .i64 t ∧ Quiet wr wz ∧ Aside (noneLeft (cur.take t) = true))
      case atStart => exact ⟨0, by omega, rfl, (by first | exact Quiet.refl _ | exact Quiet.drewN _ _ | exact (Quiet.drewN _ _).more _), by show _ = _; simp [noneLeft]⟩
      case round =>
        obtain ⟨t, ht, rfl, ⟨q2, rfl⟩, HN⟩ := hrel
        cases gk with
        | zero =>
          have htz : ¬ ((t : Int) < (ls.length : Int)) := by omega
          have hnl : noneLeft cur = true := by have := HN.out; rw [show t = cur.length from by omega, List.take_length] at this; exact this
          have HNL := Lib.hid hnl; clear hnl
          go_wp2
          go_ret2
          exact RMerged.yes (by rw [HM.out.1, mergeL_none HPK.out, HNL.out]) (by rw [HM.out.1, mergeL_none HPK.out]; simp) (own_drewN hO q2) (hG.drewN q2)
        | succ g4 =>
          have htz : (t : Int) < (ls.length : Int) := by omega
          have htc : t < cur.length := by omega
          obtain ⟨b, rfl, hb3lt, hb3n, hf3, u3', hc3, hu3⟩ := hL.at t htc
          obtain ⟨a3, cap3, rfl, hcap3, hmax3⟩ := hu3.form
          unfold maxLen at hmax3
          have hnt := noneLeft_take cur t htc
          have hnf := @noneLeft_false cur t htc
          generalize cur[t] = r at *
          have HNT := Lib.hid hnt; clear hnt
          have HNF := Lib.hid hnf; clear hnf
          by_cases hr0 : 0 < r.length
          · have hr0z : (0 < (r.length : Int)) := by omega
            go_wp2
            go_ret2
            exact RMerged.no (by rw [HM.out.1, mergeL_none HPK.out, HNF.out hr0]) (hG.drewN q2)
          · have hr0z : ¬ (0 < (r.length : Int)) := by omega
            have hrz : r = [] := List.length_eq_zero_iff.1 (by omega)
            have HRZ := Lib.hid hrz; clear hrz
            go_wp2
            go_roundg g4
            case measure => omega
            case rel => exact ⟨t + 1, by omega, by go_num, (by first | exact Quiet.refl _ | exact Quiet.drewN _ _ | exact (Quiet.drewN _ _).more _), by show _ = _; rw [HNT.out, HN.out, HRZ.out]; rfl⟩
end Go.Proofs.Ythmhcpfplmhgnaa
