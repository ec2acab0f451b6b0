/- Canonical runs: slice expressions, literals of structs; new memory. Over any program. -/
import Derived.Test.YtmpojphjongdcaaCanD
namespace Go.Proofs.Ytmpojphjongdcaa
namespace Can
open Go Go.RowKit
set_option linter.unusedSimpArgs false
set_option linter.unusedVariables false
variable {P : Program}

theorem run_sliceAt {ev' : Operand → Value} {o : Oper} {t e sz : Nat} {x : Operand} {lo hi mx : Option Operand} (ho : o.op = .slice t x lo hi mx) (ht : P.underlying t = some (.slice e)) (hz : (P.info? e).map (·.size) = some sz)
    {a : Option Addr} {n c : Nat} (hx : ev' x = .slice a n c) {l h m : Int} (hl : Bds ev' 0 lo l) (hh : Bds ev' n hi h) (hm : Bds ev' c mx m) (hmx : mx.isSome = true → hi.isSome = true)
    (h0 : 0 ≤ l) (h1 : l ≤ h) (h2 : h ≤ m) (h3 : m ≤ c) (w : World) :
    (execOp ev' o).run P w = .ok (.value (.slice (if m.toNat = l.toNat then a else a.map (·.add (l.toNat * sz))) (h.toNat - l.toNat) (m.toNat - l.toNat))) w := by
  have hr := run_sliceBounds (P := P) (b := true) hl hh hm hmx h0 h1 h2 h3 w
  simp only [execOp, ho, hx, Instr.sliceAt, Instr.slice, Sem.run_bind, run_underlying ht, Result.andThen_ok, hr, run_sz hz, Sem.run_pure]
theorem lsound_slc {t e sz : Nat} {x : Operand} {lo hi mx : Option Operand} (ht : P.underlying t = some (.slice e)) (hz : (P.info? e).map (·.size) = some sz) : LSound P (.slice t x lo hi mx) (.slc e sz x lo hi mx) := fun B β H w ev ev' o v ho hv hS hr => by
  have hx := hv x (by simp [Op.operands])
  simp only [lop] at hr
  split at hr
  · rename_i l h m hl hh hm
    split at hr
    · rename_i hok
      obtain ⟨hok, hmx⟩ := by simpa using hok
      have hmx' : mx.isSome = true → hi.isSome = true := fun g => by cases mx <;> simp_all
      have vl := fun y (e : lo = some y) => hv y (by simp [Op.operands, e])
      have vh := fun y (e : hi = some y) => hv y (by simp [Op.operands, e])
      have vm := fun y (e : mx = some y) => hv y (by simp [Op.operands, e])
      have bl := bds_of (d' := 0) hl vl (fun _ => rfl)
      generalize hev : ev x = vx at *
      generalize hev' : ev' x = vx' at *
      cases hx with
      | snil =>
        simp only [sliceV] at hr
        split at hr
        · rename_i g
          obtain ⟨rfl, rfl, rfl⟩ := g
          cases hr
          refine ⟨_, run_sliceAt ho ht hz hev' bl (bds_of hh vh (fun _ => rfl)) (bds_of hm vm (fun _ => rfl)) hmx' (Int.le_refl _) (Int.le_refl _) (Int.le_refl _) (by simp) w, ?_⟩
          simp
          exact .snil
        · cases hr
      | svoid a =>
        simp only [sliceV] at hr
        split at hr
        · rename_i g
          obtain ⟨rfl, rfl, rfl⟩ := g
          cases hr
          refine ⟨_, run_sliceAt ho ht hz hev' bl (bds_of hh vh (fun _ => rfl)) (bds_of hm vm (fun _ => rfl)) hmx' (Int.le_refl _) (Int.le_refl _) (Int.le_refl _) (by simp) w, ?_⟩
          simp
          exact .svoid a
        · cases hr
      | sweird a c =>
        simp only [sliceV] at hr
        split at hr
        · rename_i g
          obtain ⟨rfl, rfl, rfl⟩ := g
          cases hr
          cases mx with
          | none =>
            refine ⟨_, run_sliceAt (m := (c : Int)) ho ht hz hev' bl (bds_of hh vh (fun _ => rfl)) (.inl ⟨rfl, rfl⟩) (by simp) (Int.le_refl _) (Int.le_refl _) (by omega) (by simp) w, ?_⟩
            simp
            split <;> exact .sweird _ _
          | some y =>
            refine ⟨_, run_sliceAt (m := 0) ho ht hz hev' bl (bds_of hh vh (fun _ => rfl)) (bds_of hm vm (fun e => (by cases e))) hmx' (Int.le_refl _) (Int.le_refl _) (by omega) (by omega) w, ?_⟩
            simp
            exact .sweird _ _
        · cases hr
      | @sdead l' oo n c c' a hd h2 =>
        have hob := hS.ent l'
        rw [hd] at hob
        cases ho' : H.ob l' <;> rw [ho'] at hob <;> try exact hob.elim
        simp [okSl, ho'] at hok
      | @sl l' oo b szb nn n c c' k hb h1 h2 h3 h4 h5 =>
        obtain ⟨cs, e0, hob, hlive⟩ := hS.live hb
        have hsz : k ≠ .ro → szb = sz := fun hk => by
          have he : e0 = e := by
            simp only [okSl, hob] at hok
            cases k with
            | ro => exact absurd rfl hk
            | ex => simpa using hok
            | gr => simpa using hok
          subst he
          obtain ⟨_, _, _, _, _, _, _, g, _⟩ := hlive
          have g := g hk
          rw [hz] at g; exact (Option.some.inj g).symm
        simp only [sliceV] at hr
        split at hr
        · rename_i hbd
          obtain ⟨g0, g1, g2, g3⟩ := hbd
          have bh := bds_of (d' := n) hh vh (fun _ => rfl)
          have key : ∀ m' : Int, Bds ev' c' mx m' → m ≤ m' → m' ≤ c' → ∃ v', (execOp ev' o).run P w = .ok (.value v') w ∧ v' = (.slice (if m'.toNat = l.toNat then some ⟨b, oo, none⟩ else some ⟨b, oo + l.toNat * sz, none⟩) (h.toNat - l.toNat) (m'.toNat - l.toNat)) := by
            intro m' bm hmm hm'
            refine ⟨_, run_sliceAt ho ht hz hev' bl bh bm hmx' g0 g1 (by omega) hm' w, ?_⟩
            simp [Addr.add_lit]
          cases mx with
          | none =>
            have hmc : m = c := by simpa [bnd, capV] using hm.symm
            subst hmc
            obtain ⟨v', hrun, rfl⟩ := key c' (.inl ⟨rfl, rfl⟩) (by omega) (Int.le_refl _)
            refine ⟨_, hrun, ?_⟩
            split at hr
            · rename_i hlm
              simp only [Option.isSome_none, Bool.false_eq_true, if_false] at hr
              split at hr
              · rename_i hl0
                cases hr
                have hc0 : c = 0 := by omega
                have hl0' : l.toNat = 0 := by omega
                have hh0 : h.toNat = 0 := by omega
                simp only [hl0', hh0, Nat.zero_mul, Nat.add_zero, ite_self, Nat.sub_zero]
                refine .sl hb (Nat.zero_le _) (Nat.zero_le _) (by simpa using h3) (by simpa using h4) (fun g => ?_)
                have := h5 g; simp; omega
              · cases hr
                have hh0 : h.toNat - l.toNat = 0 := by omega
                rw [hh0]
                split <;> exact .sweird _ _
            · rename_i hlm
              cases hr
              rw [if_neg (by omega)]
              have e1 : (h - l).toNat = h.toNat - l.toNat := by omega
              rw [e1]
              have hle : l.toNat ≤ c' := by omega
              refine .sl hb (by omega) (by omega) (by simp only [Int.toNat_natCast]; omega) (fun g => ?_) (fun g => ?_)
              · have := h4 g
                have e0 := hsz g
                subst e0
                have e2 : l.toNat * szb + (c' - l.toNat) * szb = c' * szb := by rw [← Nat.add_mul]; congr 1; omega
                simp only [Int.toNat_natCast]
                omega
              · have := h5 g
                simp only [Int.toNat_natCast]
                omega
          | some y =>
            obtain ⟨v', hrun, rfl⟩ := key m (bds_of hm vm (fun e => (by cases e))) (Int.le_refl _) (by omega)
            refine ⟨_, hrun, ?_⟩
            split at hr
            · rename_i hlm
              simp only [Option.isSome_some, if_true] at hr
              cases hr
              have hh0 : h.toNat - l.toNat = 0 := by omega
              have hm0 : m.toNat - l.toNat = 0 := by omega
              rw [hh0, hm0]
              split <;> exact .svoid _
            · rename_i hlm
              cases hr
              rw [if_neg (by omega)]
              have e1 : (h - l).toNat = h.toNat - l.toNat := by omega
              have e2 : (m - l).toNat = m.toNat - l.toNat := by omega
              rw [e1, e2]
              refine .sl hb (by omega) (Nat.le_refl _) (by omega) (fun g => ?_) (fun g => rfl)
              have := h4 g
              have e0 := hsz g
              subst e0
              have e3 : l.toNat * szb + (m.toNat - l.toNat) * szb = m.toNat * szb := by rw [← Nat.add_mul]; congr 1; omega
              have e4 : m.toNat * szb ≤ c' * szb := Nat.mul_le_mul_right _ (by omega)
              omega
        · cases hr
      | _ => simp [sliceV] at hr
    · cases hr
  · cases hr
end Can
end Go.Proofs.Ytmpojphjongdcaa
