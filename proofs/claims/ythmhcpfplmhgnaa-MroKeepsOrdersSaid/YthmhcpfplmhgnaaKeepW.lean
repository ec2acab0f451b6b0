/- The walk of MroKeepsOrders. -/
import Derived.Test.YthmhcpfplmhgnaaLaws
import Derived.Test.YthmhcpfplmhgnaaKeepF
import Derived.Deep.OwnRows
namespace Go.Proofs.Ythmhcpfplmhgnaa
open Go.ChangeShapes Go.WideShapes Go.ChangeAt Go.RowKit
set_option linter.unusedSimpArgs false
set_option linter.unusedVariables false

theorem Try.infoBool : (Try.prog.info? 4).map (fun i => (i.zero, i.size, i.bytes)) = some (some (.bool false), 1, 1) := by kernel_rfl
theorem ansF_cases (bs : List (List Int)) (c : Int) : (∃ k, k ≠ 0 ∧ ansF bs c = ([], k) ∧ -9223372036854775808 ≤ k ∧ k ≤ 9223372036854775807) ∨
    (∃ (n : Nat) (l : List Int), c = n ∧ n < bs.length ∧ bs.length ≤ 200 ∧ Fits bs ∧ ordF bs n = some l ∧ ansF bs c = (l, 0)) := by
  by_cases h : c < 0 ∨ (bs.length : Int) ≤ c
  · exact .inl ⟨1, by decide, ansF_arg h, by decide, by decide⟩
  by_cases h2 : 200 < bs.length
  · exact .inl ⟨2, by decide, ansF_long h h2, by decide, by decide⟩
  by_cases h3 : Fits bs
  · cases h4 : ordF bs c.toNat with
    | none => exact .inl ⟨13, by decide, ansF_none h h2 h3 h4, by decide, by decide⟩
    | some l => exact .inr ⟨c.toNat, l, by omega, by omega, by omega, h3, h4, ansF_some h h2 h3 h4⟩
  · exact .inl ⟨3, by decide, ansF_form h h2 h3, by decide, by decide⟩

/-- The classes come to so far: those of cl, each once; all of them in the order. -/
structure Come (l : List Int) (c : Nat) (cl : List Int) : Prop where
  nodup : cl.Nodup
  sub : ∀ x ∈ cl, x ∈ l
  self : (c : Int) ∈ cl
def comeF (cl : List Int) (j : Nat) : Value := .bool (decide ((j : Int) ∈ cl))

set_option maxHeartbeats 1600000 in
set_option maxRecDepth 100000 in
theorem keepsOrders_walk (S : Nat → Prop) (v : Value) (bs : List (List Int)) (c : Int) (w : World) (h : RRows S w [v] bs) (hS : ∀ b, S b → b < w.heap.size) :
    Calls Try.prog 4 #[v, .int .i64 c] w fun e w' => e = .returned (.bool true) ∧ Below w.heap.size w w' := by
  rcases ansF_cases bs c with ⟨k, hk0, hk, hk1, hk2⟩ | ⟨n, l, rfl, hn, h200, hf, ho, hans⟩
  · have hkb : (k != 0) = true := by simp [hk0]
    have HK := Lib.hid hk; clear hk hk0
    go_enter Try.func4, Try.ntmps4
    go_wp2_with (go_at_call 6; refine (known_any _).mono ?_; rintro e w1 ⟨rfl, hb1⟩)
    refine (ord_any S v bs c w1 (RRows.good.keep ((Agree.of_below hb1).sub hS) h) (fun b hb => by have := hS b hb; have := hb1.size; omega)).mono ?_
    rw [HK.out]
    rintro e w2 ⟨u, rfl, ho, hb2⟩
    have s1 := hb1.size
    obtain ⟨ua, uc, rfl, _, _⟩ := ho.reads.form
    go_wp2
    go_ret
    exact ⟨rfl, hb1.trans (hb2.mono s1)⟩
  · obtain ⟨a, cap, rfl, hcap, hmax⟩ := h.form
    unfold maxLen at hmax
    have HA := Lib.hid (And.intro ho hans); clear ho hans
    have hmk := run_make_row' (P := Try.prog) 34 4 (.bool false) 1 Try.underlying34 Try.infoBool rfl .i64 .i64 bs.length (by omega) (by omega)
    go_enter Try.func4, Try.ntmps4
    go_wp2_with (go_at_call 6; refine (known_any _).mono ?_; rintro e w1 ⟨rfl, hb1⟩)
    have h1 := RRows.good.keep ((Agree.of_below hb1).sub hS) h
    have s1 := hb1.size
    refine (ord_any S _ bs n w1 h1 (fun b hb => by have := hS b hb; omega)).mono ?_
    rw [HA.out.2]
    rintro e w2 ⟨u, rfl, ho, hb2⟩
    have s2 := hb2.size
    have hb12 : Below w.heap.size w w2 := hb1.trans (hb2.mono s1)
    have hlen := ordF_len hf n hn HA.out.1
    have hhd := ordF_head hf n hn HA.out.1
    have r2 : RInts (fun b => b < w2.heap.size) w2 [u] l := RInts.good.wider (fun b h => h.2.2) ho.reads
    have hlp : 0 < l.length := by obtain ⟨t, rfl⟩ := hhd; simp
    obtain ⟨ua, uc, rfl, huc, _⟩ := r2.form
    obtain ⟨b2, o2, hb2s, rfl, hx2, hc2, _, _⟩ := RInts.get r2 0 hlp
    simp only [Nat.add_zero] at hc2
    have hl0 : l[0] = (n : Int) := by obtain ⟨t, rfl⟩ := hhd; rfl
    rw [hl0] at hc2
    have hlz : ((l.length : Int) == 0) = false := by simp; intro e; rw [e] at hlp; exact absurd hlp (Nat.lt_irrefl _)
    have HH := Lib.hid (And.intro hlen (And.intro hhd hl0)); clear hlen hhd hl0 ho hb1 hb2
    have hnz : (n : Int) < (bs.length : Int) := by omega
    have hfz : ∀ (X : World) o, (X.alloc o).frozen? ⟨X.heap.size, n, none⟩ = (X.alloc o).frozen? ⟨X.heap.size, n, none⟩ := fun _ _ => rfl
    clear hfz
    have hst1 := (World.rowIs_made w2 (.bool false) bs.length 4).cell hn
    have hst2 := (World.rowIs_made w2 (.bool false) bs.length 4).frozen n
    go_wp2
    have hrow0 : (w2.alloc (Obj.cells ((madeCells #[Value.bool false] bs.length).setIfInBounds n (Value.bool true)) 4)).rowIs w2.heap.size 4 bs.length (comeF [(n : Int)]) := by
      have hz : ((madeCells #[Value.bool false] bs.length).setIfInBounds n (Value.bool true)).size = bs.length := by simp [madeCells]
      have := World.rowIs_alloc w2 ((madeCells #[Value.bool false] bs.length).setIfInBounds n (Value.bool true)) 4 (comeF [(n : Int)]) (fun i hi => by
        rw [hz] at hi
        rw [Array.getElem?_setIfInBounds]
        by_cases e : n = i
        · subst e; simp [comeF, madeCells, hn]
        · have e' : ¬ (i : Int) = (n : Int) := by omega
          simp [comeF, e, e', madeCells, hi, Nat.mod_one])
      rw [hz] at this
      exact this
    clear hst1 hst2 hmk
    have hnd := ordF_nodup hf n hn HA.out.1
    have hkeep := ordF_keeps hf (n + 1) n (by omega) hn l HA.out.1
    have hcls := fun A => ordF_closed hf A (n + 1) n (by omega) hn
    have hmem := ordF_mem hf (n + 1) n (by omega) hn l HA.out.1
    have HM := Lib.hid (And.intro hnd (And.intro hkeep (And.intro hmem @hcls))); clear hnd hkeep hcls hmem
    have hB2 : Below w2.heap.size w2 (w2.alloc (Obj.cells ((madeCells #[Value.bool false] bs.length).setIfInBounds n (Value.bool true)) 4)) := (Below.refl _ _).alloc (Nat.le_refl _) _
    have h2 := RRows.good.keep ((Agree.of_below hb12).sub hS) h
    have h2' := RRows.good.keep ((Agree.of_below hb12).sub hS) h
    have HB := Lib.hid hb12; clear hb12
    go_loopg [8, 9] (n + 1) (fun g nv kv wr => ∃ cl : List Int, kv = .int .i64 ((g : Int) - 1) ∧ nv = .int .i64 (cl.length : Int) ∧ g ≤ n + 1 ∧ Aside (Come l n cl) ∧ wr.rowIs w2.heap.size 4 bs.length (comeF cl) ∧ Below w2.heap.size w2 wr ∧
      Aside (∀ j : Nat, (hj : j < bs.length) → g ≤ j → (j : Int) ∈ cl → ∀ b ∈ bs[j], b ∈ cl))
    case atStart =>
      refine ⟨[(n : Int)], by go_num, rfl, Nat.le_refl _, ⟨by simp, fun x hx => ?_, by simp⟩, hrow0, hB2, fun j hj hj2 hj3 => ?_⟩
      · simp only [List.mem_singleton] at hx
        subst hx
        obtain ⟨t, ht⟩ := HH.out.2.1
        rw [ht]; simp
      · simp at hj3; omega
    case round =>
      clear hrow0 hB2
      obtain ⟨cl, rfl, rfl, hgn, HC, hrow, hB, HCL⟩ := hrel
      cases gk with
      | zero =>
        have hlen : cl.length = l.length := by
          have hcl := HM.out.2.2.2 (fun x => x ∈ cl) HC.out.self (fun k hk _ hkc b hb => HCL.out k hk (Nat.zero_le _) hkc b hb) l HA.out.1
          have h1 := len_of_subset l cl HM.out.1 hcl
          have h2 := len_of_subset cl l HC.out.nodup HC.out.sub
          omega
        have hlz2 : ((cl.length : Int) == (l.length : Int)) = true := by simp [hlen]
        have HLEN := Lib.hid hlen; clear hlen
        go_wp2
        go_ret
        exact ⟨rfl, HB.out.trans (hB.mono HB.out.size)⟩
      | succ k =>
        have hkb : k < bs.length := by omega
        have hkz : ((k + 1 : Nat) : Int) - 1 = (k : Int) := by omega
        rw [hkz]
        clear hkz
        have hcellk := hrow.cell hkb
        obtain ⟨b, o, hb, rfl, hx, u, hu, hc⟩ := h2'.get1 k hkb
        obtain ⟨a', cap', rfl, hcap', hmax'⟩ := hu.form
        unfold maxLen at hmax'
        have hbw := hS b hb
        have hw2 : w.heap.size ≤ w2.heap.size := HB.out.size
        have hcr := (hB.cell (p := ⟨b, o + k, none⟩) (by show b < w2.heap.size; omega)).trans hc
        by_cases hin : (k : Int) ∈ cl
        · have hcf : comeF cl k = .bool true := by simp [comeF, hin]
          rw [hcf] at hcellk
          clear hcf
          obtain ⟨_, lk, ek1, ek2, ek3⟩ := HM.out.2.1 k (HC.out.sub _ hin)
          have hpl : 0 ≤ idxF (k : Int) l := by
            rcases Int.lt_or_le (idxF (k : Int) l) 0 with hlt | hge
            · exact absurd (HC.out.sub _ hin) ((idxF_neg _ _).1.1 hlt)
            · exact hge
          have hkp : keepsF l (-1) bs[k] = true := keepsF_of_sub HM.out.1 ek3
          have hgr := hf k hkb
          have hrl := row_len hf k hkb
          generalize hrw : bs[k] = row at *
          have HR := Lib.hid (And.intro hrw (And.intro ek1 (And.intro ek2 (And.intro ek3 hgr)))); clear hrw ek1 ek2 ek3 hgr
          have HIN := Lib.hid hin; clear hin
          have rl := RInts.good.keep ((Agree.of_below hB).sub (S := fun b => b < w2.heap.size) (fun b h => h)) r2
          have rrow := RInts.good.keep ((Agree.of_below hB).sub (S := S) (fun b hb => by have := hS b hb; omega)) hu
          go_wp2_with (first
            | (go_at_call 12; refine (place_any _ _ _ _ _ rl).mono ?_; rintro e w' ⟨rfl, q1, rfl⟩)
            | (go_at_call 13; refine (keeps_any (fun b => b < w2.heap.size) _ _ _ _ _ (RInts.good.keep ((Quiet.drewN _ _).agree _) rl) (RInts.good.wider (fun b hb => by have := hS b hb; omega) (RInts.good.keep ((Quiet.drewN _ _).agree _) rrow))).mono ?_; rintro e w' ⟨rfl, q2, rfl⟩))
          go_loopg [8, 10] row.length (fun g2 nv iv wy => ∃ (i : Nat) (cl2 : List Int), i + g2 = row.length ∧ iv = .int .i64 i ∧ nv = .int .i64 (cl2.length : Int) ∧ Aside (Come l n cl2) ∧ wy.rowIs w2.heap.size 4 bs.length (comeF cl2) ∧ Below w2.heap.size w2 wy ∧
            Aside ((∀ x ∈ cl, x ∈ cl2) ∧ (∀ x ∈ cl2, x ∈ cl ∨ x < k) ∧ ∀ t (ht : t < row.length), t < i → row[t] ∈ cl2))
          case atStart => exact ⟨0, cl, by omega, rfl, rfl, HC, hrow.of_block rfl, below_drewN hB _, fun x hx => hx, fun x hx => .inl hx, fun t _ ht => absurd ht (Nat.not_lt_zero _)⟩
          case round =>
            clear hrow hB rl rrow hcr hcellk
            obtain ⟨i, cl2, hi, rfl, rfl, HC2, hrow, hB, HS⟩ := hrel
            have hcr := (hB.cell (p := ⟨b, o + k, none⟩) (by show b < w2.heap.size; omega)).trans hc
            have rl := RInts.good.keep ((Agree.of_below hB).sub (S := fun b => b < w2.heap.size) (fun b h => h)) r2
            cases gk with
            | zero =>
              have hiz : ¬ ((i : Int) < (row.length : Int)) := by omega
              go_wp2
              go_roundg k
              case measure => omega
              case rel =>
                refine ⟨cl2, by go_num, rfl, by omega, HC2, hrow, hB, fun j hj hjk hjc => ?_⟩
                by_cases e : j = k
                · subst e
                  rw [HR.out.1]
                  intro x hx
                  obtain ⟨t, ht, rfl⟩ := List.getElem_of_mem hx
                  exact HS.out.2.2 t ht (by omega)
                · intro x hx
                  rcases HS.out.2.1 _ hjc with hjc' | hlt
                  · exact HS.out.1 _ (HCL.out j hj (by omega) hjc' x hx)
                  · omega
            | succ g2 =>
              have hiz : (i : Int) < (row.length : Int) := by omega
              have hir : i < row.length := by omega
              obtain ⟨b5, o5, hb5, rfl, hx5, hc5, _, _⟩ := RInts.get hu i hir
              have hb5s := hS b5 hb5
              have hc5r := (hB.cell (p := ⟨b5, o5 + i, none⟩) (by show b5 < w2.heap.size; omega)).trans hc5
              have hyr := HR.out.2.2.2.2.2 row[i] (List.getElem_mem _)
              obtain ⟨y, hyy⟩ : ∃ y : Nat, row[i] = (y : Int) := ⟨row[i].toNat, by omega⟩
              have hyl : (y : Int) ∈ l := by rw [← hyy]; exact HR.out.2.2.2.1.subset (List.getElem_mem _)
              obtain ⟨hyb, ly, ey1, ey2, ey3⟩ := HM.out.2.1 y hyl
              have hko : keepsF l (-1) ly = true := keepsF_of_sub HM.out.1 ey2
              rw [hyy] at hc5r hyr
              clear hc5
              have hans := ansF_some (bs := bs) (c := (y : Int)) (l := ly) (by omega) (by omega) hf (by rw [Int.toNat_natCast]; exact ey1)
              have HY := Lib.hid (And.intro hyy (And.intro hyl (And.intro hans (And.intro ey1 ey2)))); clear hyy hyl hans ey1 ey2 ey3
              have hcelly := hrow.cell hyb
              have hfry := hrow.frozen y
              have hybz : (y : Int) < (bs.length : Int) := by omega
              by_cases hyin : (y : Int) ∈ cl2
              · have hcf : comeF cl2 y = .bool true := by simp [comeF, hyin]
                rw [hcf] at hcelly
                clear hcf
                have HYI := Lib.hid hyin; clear hyin
                go_wp2_with fail
                have hS' : ∀ b, S b → b < wr.heap.size := fun b hb => by have := hS b hb; have := hB.size; omega
                refine (ord_any S _ bs y wr (RRows.good.keep ((Agree.of_below hB).sub (S := S) (fun b hb => by have := hS b hb; omega)) h2) hS').mono ?_
                rw [HY.out.2.2.1]
                rintro e w3 ⟨u3, rfl, ho3, hb3⟩
                have hs3 := hb3.size
                have hsB := hB.size
                have rl3 := RInts.good.wider (T := fun b => b < w3.heap.size) (fun b hb => by omega) (RInts.good.keep ((Agree.of_below hb3).sub (S := fun b => b < w2.heap.size) (fun b hb => by omega)) rl)
                have ro3 := RInts.good.wider (T := fun b => b < w3.heap.size) (fun b hb => hb.2.2) ho3.reads
                simp only at ro3
                have hrow3 := hrow.of_block (w' := w3) (hb3.block _ hrow.lt)
                clear ho3
                go_wp2_with (go_at_call 13; refine (keeps_any _ _ _ _ _ _ rl3 ro3).mono ?_; rintro e w' ⟨rfl, q2, rfl⟩)
                go_roundg g2
                case measure => omega
                case rel =>
                  refine ⟨i + 1, cl2, by omega, by go_num, rfl, HC2, hrow3.of_block rfl, below_drewN (hB.trans (hb3.mono hsB)) _, HS.out.1, HS.out.2.1, fun t ht hti => ?_⟩
                  by_cases e : t = i
                  · subst e; rw [HY.out.1]; exact HYI.out
                  · exact HS.out.2.2 t ht (by omega)
              · have hcf : comeF cl2 y = .bool false := by simp [comeF, hyin]
                rw [hcf] at hcelly
                clear hcf
                have HYI := Lib.hid hyin; clear hyin
                have hclb : cl2.length ≤ 1000 := by
                  have h2 := len_of_subset cl2 l HC2.out.nodup HC2.out.sub
                  have := HH.out.1; omega
                go_wp2_with fail
                have hBn : Below w2.heap.size w2 (wr.setCell ⟨w2.heap.size, y, none⟩ (.bool true)) := hB.setCell (Nat.le_refl _) _
                have hrown : (wr.setCell ⟨w2.heap.size, y, none⟩ (.bool true)).rowIs w2.heap.size 4 bs.length (comeF (cl2 ++ [(y : Int)])) := (hrow.set y (.bool true)).congr fun j hj => by
                  by_cases e : j = y
                  · subst e; simp [comeF]
                  · have e' : ¬ (j : Int) = (y : Int) := by omega
                    simp [comeF, e, e']
                have rln := RInts.good.keep ((Agree.of_below hBn).sub (S := fun b => b < w2.heap.size) (fun b h => h)) r2
                generalize wr.setCell ⟨w2.heap.size, y, none⟩ (.bool true) = wn at *
                have hS' : ∀ b, S b → b < wn.heap.size := fun b hb => by have := hS b hb; have := hBn.size; omega
                refine (ord_any S _ bs y wn (RRows.good.keep ((Agree.of_below hBn).sub (S := S) (fun b hb => by have := hS b hb; omega)) h2) hS').mono ?_
                rw [HY.out.2.2.1]
                rintro e w3 ⟨u3, rfl, ho3, hb3⟩
                have hs3 := hb3.size
                have hsB := hBn.size
                have rl3 := RInts.good.wider (T := fun b => b < w3.heap.size) (fun b hb => by omega) (RInts.good.keep ((Agree.of_below hb3).sub (S := fun b => b < w2.heap.size) (fun b hb => by omega)) rln)
                have ro3 := RInts.good.wider (T := fun b => b < w3.heap.size) (fun b hb => hb.2.2) ho3.reads
                simp only at ro3
                have hrow3 := hrown.of_block (w' := w3) (hb3.block _ hrown.lt)
                clear ho3
                go_wp2_with (go_at_call 13; refine (keeps_any _ _ _ _ _ _ rl3 ro3).mono ?_; rintro e w' ⟨rfl, q2, rfl⟩)
                go_roundg g2
                case measure => omega
                case rel =>
                  refine ⟨i + 1, cl2 ++ [(y : Int)], by omega, by go_num, by simp, ⟨?_, ?_, ?_⟩, hrow3.of_block rfl, below_drewN (hBn.trans (hb3.mono hsB)) _, fun x hx => ?_, fun x hx => ?_, fun t ht hti => ?_⟩
                  · rw [List.nodup_append]
                    refine ⟨HC2.out.nodup, by simp, fun a ha b hb e => ?_⟩
                    simp only [List.mem_singleton] at hb
                    subst hb; subst e; exact HYI.out ha
                  · intro x hx
                    rcases List.mem_append.1 hx with hx | hx
                    · exact HC2.out.sub x hx
                    · simp only [List.mem_singleton] at hx; subst hx; exact HY.out.2.1
                  · exact List.mem_append_left _ HC2.out.self
                  · exact List.mem_append_left _ (HS.out.1 x hx)
                  · rcases List.mem_append.1 hx with hx | hx
                    · exact HS.out.2.1 x hx
                    · simp only [List.mem_singleton] at hx; subst hx; exact .inr hyr.2
                  · by_cases e : t = i
                    · subst e; rw [HY.out.1]; simp
                    · exact List.mem_append_left _ (HS.out.2.2 t ht (by omega))
        · have hcf : comeF cl k = .bool false := by simp [comeF, hin]
          rw [hcf] at hcellk
          clear hcf
          have HIN := Lib.hid hin; clear hin
          go_wp2
          go_roundg k
          case measure => omega
          case rel =>
            refine ⟨cl, by go_num, rfl, by omega, HC, hrow, hB, fun j hj hjk hjc => ?_⟩
            by_cases e : j = k
            · subst e; exact absurd hjc HIN.out
            · exact HCL.out j hj (by omega) hjc
end Go.Proofs.Ythmhcpfplmhgnaa
