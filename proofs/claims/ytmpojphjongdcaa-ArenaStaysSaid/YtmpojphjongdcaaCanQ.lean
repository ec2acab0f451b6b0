/- Canonical runs: regions that draw their order: the steps. Over any program. -/
import Derived.Test.YtmpojphjongdcaaCanP
namespace Go.Proofs.Ytmpojphjongdcaa
namespace Can
open Go Go.RowKit
set_option linter.unusedSimpArgs false
set_option linter.unusedVariables false
variable {P : Program} {B : Nat}
section
variable {N : Nat} {ops : Array Oper} {d : DReg} {S : DS P N ops d} {h : Hd} {β0 : Nat → Ent} {w0 : World} {fr' : Fr} {H' : CH} {β : Nat → Ent} {fr : Fr} {H : CH} {R : List Nat} {lag : List (Nat × Nat)} {l : List CH} {m : Nat} {a : Act} {w : World}
open Classical in
/-- The frame without what is not known yet. -/
noncomputable def patch (S : DS P N ops d) (lag : List (Nat × Nat)) (fr : Fr) : Fr := fun t => if ∃ q ∈ lag, (S.its q.1).dst = some t then undef else fr t
theorem Core.patched (C : Core S B h β0 w0 fr' H' β fr H R lag l m a w) : FR β N (patch S lag fr) a := by
  refine ⟨C.size, fun t => ?_⟩
  unfold patch
  split
  · exact .undef _
  · rename_i hn
    rcases C.fr t with g | g
    · exact absurd g hn
    · exact g
theorem patch_agree {i : Nat} (hf : ∀ q ∈ lag, ∀ t, (S.its q.1).dst = some t → t ∉ (S.its i).uses) : ∀ t ∈ (S.its i).uses, fr t = patch S lag fr t := by
  intro t ht
  unfold patch
  rw [if_neg]
  rintro ⟨q, hq, e⟩
  exact hf q hq t e ht
/-- An operation that leaves the memory alone, done now. -/
theorem Core.quiet (C : Core S B h β0 w0 fr' H' β fr H R lag l m a w) {i : Nat} (hi : i < ops.size) (hiR : i ∈ R) (hil : ¬ ∃ q ∈ lag, q.1 = i) (hiW : isW (S.its i).op = false) (hiA : isA (S.its i).op = false ∨ wantedF fr (S.its i).guard = some false)
    (hanc : ∀ j, Anc ops i j → Ex R lag j) (hfeed : ∀ q ∈ lag, ∀ t, (S.its q.1).dst = some t → t ∉ (S.its i).uses) :
    ∃ R1 R2 v, R = R1 ++ i :: R2 ∧ stepI h (S.its i) fr H = some (putF fr (S.its i).dst v, H) ∧ runD h ((R1 ++ R2).map S.its) (putF fr (S.its i).dst v) H = some (fr', H', l) := by
  obtain ⟨R1, R2, rfl⟩ := List.append_of_mem hiR
  obtain ⟨p1, p2, p3⟩ := pw_mem C.srt
  have hnot : ∀ z ∈ R1 ++ R2, z ≠ i := fun z hz e => C.notmem (e ▸ hz)
  have hlt : ∀ z ∈ R1 ++ R2, z < ops.size := fun z hz => C.lt z (by rcases List.mem_append.1 hz with hz | hz <;> simp [hz])
  have hRm : ∀ z ∈ R1, z ∈ R1 ++ i :: R2 := fun z hz => by simp [hz]
  -- what stands ahead and comes before is known only as memory
  have hahead : ∀ z ∈ R1, Anc ops i z → ∃ q ∈ lag, q.1 = z := fun z hz ha => by
    rcases hanc z ha with g | g
    · exact absurd (hRm z hz) g
    · exact g
  have hrun := C.run
  rw [List.map_append, List.map_cons] at hrun
  obtain ⟨fr1, H1, l1, l2, g1, g2, rfl⟩ := runD_app hrun
  have huse : ∀ t ∈ (S.its i).uses, fr1 t = fr t := fun t ht => by
    refine runD_keep (fun y hy e => ?_) g1
    obtain ⟨z, hz, rfl⟩ := List.mem_map.1 hy
    have hzl := hlt z (by simp [hz])
    rcases S.d2 z i t hzl hi (hnot z (by simp [hz])) e ht with q | ⟨q, _⟩
    · obtain ⟨q1, q2, q3⟩ := hahead z hz q
      exact hfeed q1 q2 t (by rw [q3]; exact e) ht
    · exact absurd (S.ancp _ _ hzl q).2 (by have := p1 z hz; omega)
  have hap : ∀ y ∈ R1.map S.its, ∀ t, (S.its i).dst = some t → t ∉ y.uses ∧ y.dst ≠ some t := fun y hy t ht => by
    obtain ⟨z, hz, rfl⟩ := List.mem_map.1 hy
    have hzl := hlt z (by simp [hz])
    refine ⟨fun hu => ?_, fun e => hnot z (by simp [hz]) (S.dd _ _ t hzl hi e ht)⟩
    rcases S.d2 i z t hi hzl (fun e => hnot z (by simp [hz]) e.symm) ht hu with q | ⟨q, qa⟩
    · exact absurd (S.ancp _ _ hzl q).2 (by have := p1 z hz; omega)
    · obtain ⟨q1, q2, q3⟩ := hahead z hz q
      have := (C.lagR q1 q2).2
      rw [q3, qa] at this; cases this
  have hw1 : wantedF fr1 (S.its i).guard = wantedF fr (S.its i).guard := wanted_agree huse
  simp only [runD] at g2
  cases hs : stepI h (S.its i) fr1 H1 with
  | none => rw [hs] at g2; cases g2
  | some q =>
    obtain ⟨f, K⟩ := q
    rw [hs] at g2
    simp only [hiW, Bool.false_eq_true, if_false] at g2
    have g3 : runD h (R2.map S.its) f K = some (fr', H', l2) := by
      cases hz : runD h (R2.map S.its) f K with
      | none => rw [hz] at g2; cases g2
      | some z => obtain ⟨z1, z2, z3⟩ := z; rw [hz] at g2; simpa using g2
    -- it is enough to know its value here
    have fin : ∀ v, f = putF fr1 (S.its i).dst v → K = H1 → stepI h (S.its i) fr H = some (putF fr (S.its i).dst v, H) → ∃ R1' R2' v, R1 ++ i :: R2 = R1' ++ i :: R2' ∧ stepI h (S.its i) fr H = some (putF fr (S.its i).dst v, H) ∧ runD h ((R1' ++ R2').map S.its) (putF fr (S.its i).dst v) H = some (fr', H', l1 ++ l2) := by
      intro v e1 e2 e3
      subst e1 e2
      refine ⟨R1, R2, v, rfl, e3, ?_⟩
      rw [List.map_append]
      exact runD_join (runD_put hap g1) g3
    simp only [stepI] at hs
    cases hw : wantedF fr (S.its i).guard with
    | none => rw [hw1, hw] at hs; cases hs
    | some b =>
      rw [hw1, hw] at hs
      cases b with
      | false =>
        simp only [Option.some.injEq, Prod.mk.injEq] at hs
        exact fin skipV hs.1.symm hs.2.symm (by simp only [stepI, hw])
      | true =>
        have hA : isA (S.its i).op = false := by
          rcases hiA with g | g
          · exact g
          · rw [hw] at g; cases g
        simp only at hs
        cases hop : (S.its i).op with
        | a x => rw [hop] at hA; cases hA
        | w x => rw [hop] at hiW; cases hiW
        | call f a => rw [hop] at hiW; cases hiW
        | callv f a => rw [hop] at hiW; cases hiW
        | p x =>
          rw [hop] at hs
          simp only [rop] at hs
          cases hp : pop (evF fr1) x with
          | none => rw [hp] at hs; cases hs
          | some u =>
            rw [hp] at hs
            simp only [Option.map_some, Option.some.injEq, Prod.mk.injEq] at hs
            have hp2 : pop (evF fr) x = some u := by
              rw [← hp]; exact pop_congr (evF_agree fun t ht => (huse t (by simp only [Item.uses, hop, List.mem_append]; exact .inl ht)).symm)
            exact fin u hs.1.symm hs.2.symm (by simp only [stepI, hw, hop, rop, hp2, Option.map_some])
        | l x =>
          rw [hop] at hs
          simp only [rop] at hs
          cases hp : lop H1 (evF fr1) x with
          | none => rw [hp] at hs; cases hs
          | some u =>
            rw [hp] at hs
            simp only [Option.map_some, Option.some.injEq, Prod.mk.injEq] at hs
            have hcongr : ∀ (f : Fr) (G : CH), (∀ t ∈ (S.its i).uses, f t = fr t) → lop G (evF f) x = lop G (evF fr) x := fun f G hf =>
              lop_congr (evF_agree fun t ht => hf t (by simp only [Item.uses, hop, List.mem_append]; exact .inl ht))
            have hp2 : lop H (evF fr) x = some u := by
              rcases S.rd i x hi hop with hfree | ⟨c1, c2⟩
              · have hquiet : ∀ z ∈ R1, isW (S.its z).op = false ∧ isA (S.its z).op = false := fun z hz => by
                  have hzl := hlt z (by simp [hz])
                  obtain ⟨s1, s2⟩ := hfree z hzl (p1 z hz)
                  refine ⟨?_, ?_⟩
                  · cases hzw : isW (S.its z).op with
                    | false => rfl
                    | true => exact absurd (hahead z hz (s1 hzw)) (C.wlag hzw)
                  · cases hza : isA (S.its z).op with
                    | false => rfl
                    | true =>
                      rcases s2 hza with ⟨y, y1, y2, y3, y4⟩ | ⟨t, t1, t2⟩
                      · have hy : y ∉ R1 ++ i :: R2 := by
                          rcases hanc y y4 with g | g
                          · exact g
                          · exact absurd g (C.wlag y2)
                        exact absurd (hRm z hz) (C.past y y1 y2 hy z hzl y3)
                      · rcases S.d2 z i t hzl hi (hnot z (by simp [hz])) t1 t2 with q | ⟨q, _⟩
                        · obtain ⟨q1, q2, q3⟩ := hahead z hz q
                          exact absurd t2 (hfeed q1 q2 t (by rw [q3]; exact t1))
                        · exact absurd (S.ancp _ _ hzl q).2 (by have := p1 z hz; omega)
                obtain ⟨e1, _⟩ := runD_quiet (fun y hy => by obtain ⟨z, hz, rfl⟩ := List.mem_map.1 hy; exact hquiet z hz) g1
                rw [← hcongr fr1 H huse, ← e1]; exact hp
              · have hlo : S.lo i ≤ m := by
                  rcases Nat.lt_or_ge m (S.lo i) with g | g
                  · obtain ⟨y, y1, y2, y3, y4⟩ := S.lo1 i m hi g
                    have hy : y ∉ R1 ++ i :: R2 := by
                      rcases hanc y y4 with g | g
                      · exact g
                      · exact absurd g (C.wlag y2)
                    have := (C.done y y1 y2).1 hy
                    omega
                  · exact g
                have hhi : m ≤ S.hi i := by
                  rcases Nat.lt_or_ge (S.hi i) m with g | g
                  · obtain ⟨y, y1, y2, y3⟩ := C.mW _ g
                    have hy : y ∉ R1 ++ i :: R2 := (C.done y y1 y2).2 (by omega)
                    rcases S.hi1 i y hi y1 y2 with q | q
                    · omega
                    · exact absurd hiR (C.past y y1 y2 hy i hi q)
                  · exact g
                obtain ⟨G, z1, z2⟩ := C.chk i hiR m (c2 m hlo hhi) hlo hhi (Nat.le_refl m)
                rw [Nat.sub_self] at z1
                simp only [List.getElem?_cons_zero, Option.some.injEq] at z1
                subst z1
                have hfin : ∀ t ∈ (S.its i).uses, fr' t = fr t := fun t ht => by
                  refine runD_keep (fun y hy e => ?_) C.run
                  obtain ⟨z, hz, rfl⟩ := List.mem_map.1 hy
                  have hzl := C.lt z hz
                  have ha := c1 t z ht hzl e
                  rcases hanc z ha with g | ⟨q1, q2, q3⟩
                  · exact g hz
                  · exact hfeed q1 q2 t (by rw [q3]; exact e) ht
                have hwf : wantedF fr' (S.its i).guard = some true := by rw [wanted_agree hfin]; exact hw
                rcases z2 with z2 | ⟨x', d', z2, z3, z4⟩
                · rw [hwf] at z2; cases z2
                · rw [hop] at z2
                  cases z2
                  rw [hcongr fr' H hfin] at z4
                  rw [z4]
                  have : fr' d' = u := by
                    rw [runD_keep (t := d') (fun y hy e => ?_) g3, ← hs.1, z3]
                    · simp [putF]
                    · obtain ⟨z, hz, rfl⟩ := List.mem_map.1 hy
                      exact hnot z (by simp [hz]) (S.dd _ _ d' (hlt z (by simp [hz])) hi e z3)
                  rw [this]
            exact fin u hs.1.symm hs.2.symm (by simp only [stepI, hw, hop, rop, hp2, Option.map_some])
end
end Can
end Go.Proofs.Ytmpojphjongdcaa
