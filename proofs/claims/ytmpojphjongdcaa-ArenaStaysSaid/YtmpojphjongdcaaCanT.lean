/- Canonical runs: regions that draw their order: whatever order is drawn. Over any program. -/
import Derived.Test.YtmpojphjongdcaaCanR
namespace Go.Proofs.Ytmpojphjongdcaa
namespace Can
open Go Go.RowKit
set_option linter.unusedSimpArgs false
set_option linter.unusedVariables false
variable {P : Program} {B : Nat}
section
variable {N : Nat} {ops : Array Oper} {d : DReg} {S : DS P N ops d} {h : Hd} {β0 : Nat → Ent} {w0 : World} {fr' : Fr} {H' : CH}
structure Inv (S : DS P N ops d) (B : Nat) (h : Hd) (β0 : Nat → Ent) (w0 : World) (fr' : Fr) (H' : CH) (df : List Deferred) (listed : Array Bool) (a : Act) (w : World) : Prop where
  core : ∃ β fr H R lag l m, Core S B h β0 w0 fr' H' β fr H R lag l m a w ∧ ∀ j, j < ops.size → (listed.getD j false = true ↔ Ex R lag j)
  dc : DC ops listed
  size : listed.size = ops.size
  defers : a.defers = df
theorem ex_drop {R1 R2 : List Nat} {i : Nat} {lag : List (Nat × Nat)} (hn : i ∉ R1 ++ R2) (j : Nat) : Ex (R1 ++ R2) lag j ↔ j = i ∨ Ex (R1 ++ i :: R2) lag j := by
  unfold Ex
  by_cases e : j = i
  · subst e; exact ⟨fun _ => .inl rfl, fun _ => .inl hn⟩
  · simp only [List.mem_append, List.mem_cons, e, false_or]
theorem wpOpIn_some {Q : Exit → Act → World → Prop} {F : Fence} {n i : Nat} {K : Act → World → Prop} {a : Act} {w : World} {o : Oper} (ho : ops[i]? = some o) (hF : ∀ f, F.fn f)
    (h1 : Region.wanted o (yielded ops a.tmps) = true → o.wpIn F n P a w K Q) (h2 : Region.wanted o (yielded ops a.tmps) = false → K (a.put o.dst undef) w) : wpOpIn F n P ops Q i K a w := by
  unfold wpOpIn
  simp only [ho]
  cases hw : Region.wanted o (yielded ops a.tmps) with
  | true => simp only [if_true]; exact h1 hw
  | false => simp only [Bool.false_eq_true, if_false]; exact ⟨fun f _ => hF f, h2 hw⟩
theorem Inv.step (hh : HS P B h) {ro : Option Nat} {df : List Deferred} {listed : Array Bool} {a : Act} {w : World} {Q : Exit → Act → World → Prop} (I : Inv S B h β0 w0 fr' H' df listed a w) {i : Nat} (hi : i ∈ Region.ready .any ops listed) {K : Act → World → Prop}
    (hK : ∀ a' w', Inv S B h β0 w0 fr' H' df (listed.setIfInBounds i true) a' w' → K a' w') : wpOpIn (Fn ro) 0 P ops Q i K a w := by
  obtain ⟨β, fr, H, R, lag, l, m, C, hex⟩ := I.core
  obtain ⟨hik, hun, hedge⟩ := ready_spec hi
  obtain ⟨o, ho⟩ : ∃ o, ops[i]? = some o := ⟨ops[i], by simp [hik]⟩
  have hok := S.ok i o ho
  have hancl : ∀ j, Anc ops i j → listed.getD j false = true := fun j hj => anc_ready I.dc hj hedge
  have hanc0 : ∀ j, Anc ops i j → Ex R lag j := fun j hj => (hex j (S.ancp i j hik hj).1).1 (hancl j hj)
  have hunl : ¬ listed.getD i false = true := fun g => by
    simp only [Array.getD_eq_getD_getElem?] at hun g
    have : i < listed.size := by rw [I.size]; exact hik
    rw [Array.getElem?_eq_getElem this] at hun g
    simp only [Option.getD_some] at hun g
    rw [g] at hun; cases hun
  have hnx : ¬ Ex R lag i := fun g => hunl ((hex i hik).2 g)
  have hiR : i ∈ R := Classical.byContradiction fun g => hnx (.inl g)
  have hil : ¬ ∃ q ∈ lag, q.1 = i := fun g => hnx (.inr g)
  have hlt : ∀ t, (S.its i).dst = some t → t < N := fun t ht => hok.lt t (by rw [← hok.dst]; exact ht)
  have hnew : ∀ {R' : List Nat} {lag' : List (Nat × Nat)}, (∀ j, Ex R' lag' j ↔ j = i ∨ Ex R lag j) → ∀ j, j < ops.size → ((listed.setIfInBounds i true).getD j false = true ↔ Ex R' lag' j) := by
    intro R' lag' hE j hj
    rw [getD_set, hE j, ← hex j hj]
    constructor
    · rintro (⟨e, _⟩ | g)
      · exact .inl e
      · exact .inr g
    · rintro (e | g)
      · exact .inl ⟨e, by rw [I.size]; exact hik⟩
      · exact .inr g
  have hdef : ∀ v', (a.put o.dst v').defers = df := fun v' => by rw [← I.defers]; cases o.dst <;> rfl
  have close : ∀ {β2 : Nat → Ent} {fr2 : Fr} {H2 : CH} {R2 : List Nat} {lag2 : List (Nat × Nat)} {l2 : List CH} {m2 : Nat} {v' : Value} {w' : World}, Core S B h β0 w0 fr' H' β2 fr2 H2 R2 lag2 l2 m2 (a.put (S.its i).dst v') w' → (∀ j, Ex R2 lag2 j ↔ j = i ∨ Ex R lag j) → K (a.put o.dst v') w' := by
    intro β2 fr2 H2 R2 lag2 l2 m2 v' w' C2 hE
    rw [hok.dst] at C2
    exact hK _ _ ⟨⟨β2, fr2, H2, R2, lag2, l2, m2, C2, hnew hE⟩, dc_set I.dc hi, by simp [I.size], hdef v'⟩
  -- what an operation does on the frame that is known, it does
  have act : ∀ {β2 : Nat → Ent} {fr2 : Fr} {H2 H3 : CH} {R2 : List Nat} {lag2 : List (Nat × Nat)} {l2 : List CH} {m2 : Nat} {v : Value}, Core S B h β0 w0 fr' H' β2 fr2 H2 R2 lag2 l2 m2 a w →
      (∀ q ∈ lag2, ∀ t, (S.its q.1).dst = some t → t ∉ (S.its i).uses) → stepI h (S.its i) fr2 H2 = some (putF fr2 (S.its i).dst v, H3) →
      (∀ β' w' v', Sim P B β' H3 w' → Evo β2 w β' w' → FR β' N (putF (patch S lag2 fr2) (S.its i).dst v) (a.put (S.its i).dst v') → K (a.put o.dst v') w') → wpOpIn (Fn ro) 0 P ops Q i K a w := by
    intro β2 fr2 H2 H3 R2 lag2 l2 m2 v C2 hfeed hstep hk
    have hag := patch_agree (S := S) (lag := lag2) (fr := fr2) hfeed
    obtain ⟨u, e1, hst⟩ := stepI_agree (fr2 := patch S lag2 fr2) hag hstep
    have hpu : putF (patch S lag2 fr2) (S.its i).dst u = putF (patch S lag2 fr2) (S.its i).dst v := by
      cases hd : (S.its i).dst with
      | none => rfl
      | some t =>
        rw [hd] at e1
        have := congrFun e1 t
        simp only [putF, if_true] at this
        rw [this]
    rw [hpu] at hst
    have hFR := C2.patched
    have hst' := hst
    simp only [stepI] at hst'
    cases hw : wantedF (patch S lag2 fr2) (S.its i).guard with
    | none => rw [hw] at hst'; cases hst'
    | some b =>
      have hwr := wanted_rel hok hFR hw
      rw [hw] at hst'
      cases b with
      | true =>
        refine wpOpIn_some ho (fun _ => trivial) (fun _ => ?_) (fun g => by rw [hwr] at g; cases g)
        refine item_sound hh hok C2.sim hFR hw hst' fun β' w' v' q1 q2 q3 => ?_
        rw [← hok.dst] at q3
        exact hk β' w' v' q1 q2 q3
      | false =>
        refine wpOpIn_some ho (fun _ => trivial) (fun g => by rw [hwr] at g; cases g) (fun _ => ?_)
        simp only [Option.some.injEq, Prod.mk.injEq] at hst'
        obtain ⟨z1, rfl⟩ := hst'
        refine hk β2 w undef C2.sim (Evo.refl β2 w) ?_
        rw [← z1]
        exact hFR.put hlt .skip
  cases hiW : isW (S.its i).op with
  | true =>
    obtain ⟨R1, R2, rfl⟩ := List.append_of_mem hiR
    obtain ⟨p1, p2, p3⟩ := pw_mem C.srt
    have hnm := C.notmem
    obtain ⟨β2, fr2, H2, lag2, C2, hE2⟩ := Core.front R1 C fun x hx => by
      have hxR : x ∈ R1 ++ i :: R2 := by simp [hx]
      rcases hanc0 x (S.d4 x i (C.lt x hxR) hik hiW (p1 x hx)) with g | g
      · exact absurd hxR g
      · exact g
    have hanc2 : ∀ j, Anc ops i j → Ex (i :: R2) lag2 j := fun j hj => (hE2 j).2 (hanc0 j hj)
    have hil2 := C2.wlag hiW
    have hsrt2 := C2.srt
    rw [List.pairwise_cons] at hsrt2
    have hfeed2 : ∀ q ∈ lag2, ∀ t, (S.its q.1).dst = some t → t ∉ (S.its i).uses := fun q hq t ht hu => by
      have hqR := (C2.lagR q hq).1
      have hne : q.1 ≠ i := fun e => hil2 ⟨q, hq, e⟩
      have hq2 : q.1 ∈ R2 := by simpa [hne] using hqR
      rcases S.d2 q.1 i t (C2.lt _ hqR) hik hne ht hu with g | ⟨g, _⟩
      · have := (S.ancp _ _ hik g).2
        have := hsrt2.1 _ hq2
        omega
      · rcases C2.lagAnc q hq i g with g | g
        · exact g (by simp)
        · exact hil2 g
    have hrun := C2.run
    simp only [List.map_cons, runD] at hrun
    cases hs : stepI h (S.its i) fr2 H2 with
    | none => rw [hs] at hrun; cases hrun
    | some q =>
      obtain ⟨f, H3⟩ := q
      rw [hs] at hrun
      obtain ⟨v, rfl, _⟩ := stepI_agree (fr2 := fr2) (fun t _ => rfl) hs
      simp only [hiW, if_true] at hrun
      cases hz : runD h (R2.map S.its) (putF fr2 (S.its i).dst v) H3 with
      | none => rw [hz] at hrun; cases hrun
      | some z =>
        obtain ⟨z1, z2, l2⟩ := z
        rw [hz] at hrun
        simp only [Option.map_some, Option.some.injEq, Prod.mk.injEq] at hrun
        obtain ⟨rfl, rfl, hl⟩ := hrun
        refine act C2 hfeed2 hs fun β' w' v' q1 q2 q3 => close (C2.nextW hiW (C2.rank hiW hanc2) hl.symm hz q1 q2 q3) fun j => ?_
        have := ex_drop (R1 := []) (R2 := R2) (i := i) (lag := lag2) (fun g => hnm (by simp only [List.nil_append] at g; simp [g])) j
        simp only [List.nil_append] at this
        rw [this, hE2 j]
  | false =>
    obtain ⟨β2, fr2, H2, R2, lag2, C2, hE2, hiR2, hfeed2⟩ := C.feed lag.length (Nat.le_refl _) hik hiW hiR hil hanc0
    have hnx2 : ¬ Ex R2 lag2 i := fun g => hnx ((hE2 i).1 g)
    have hil2 : ¬ ∃ q ∈ lag2, q.1 = i := fun g => hnx2 (.inr g)
    have hanc2 : ∀ j, Anc ops i j → Ex R2 lag2 j := fun j hj => (hE2 j).2 (hanc0 j hj)
    have viaQuiet : (isA (S.its i).op = false ∨ wantedF fr2 (S.its i).guard = some false) → wpOpIn (Fn ro) 0 P ops Q i K a w := by
      intro hA
      obtain ⟨Ra, Rb, v, rfl, hstep, hrun⟩ := C2.quiet hik hiR2 hil2 hiW hA hanc2 hfeed2
      refine act C2 hfeed2 hstep fun β' w' v' q1 q2 q3 => close (C2.nextQuiet hil2 hiW hrun q1 q2 q3) fun j => ?_
      rw [ex_drop C2.notmem j, hE2 j]
    cases hA : isA (S.its i).op with
    | false => exact viaQuiet (.inl hA)
    | true =>
      -- at its place the canonical run makes the memory
      obtain ⟨Ra, Rb, hRab⟩ := List.append_of_mem hiR2
      have hC2 := C2
      rw [hRab] at hC2
      obtain ⟨p1, p2, p3⟩ := pw_mem hC2.srt
      have hnm := hC2.notmem
      have hrun := hC2.run
      rw [List.map_append, List.map_cons] at hrun
      obtain ⟨fr1, H1, l1, l2, g1, g2, _⟩ := runD_app hrun
      have huse : ∀ t ∈ (S.its i).uses, fr1 t = fr2 t := fun t ht => by
        refine runD_keep (fun y hy e => ?_) g1
        obtain ⟨z, hz, rfl⟩ := List.mem_map.1 hy
        have hzR : z ∈ Ra ++ i :: Rb := by simp [hz]
        have hzl := hC2.lt z hzR
        rcases S.d2 z i t hzl hik (fun e => hnm (by rw [← e]; simp [hz])) e ht with q | ⟨_, q⟩
        · rcases hanc2 z q with g | ⟨q1, q2, q3⟩
          · exact g (by rw [hRab]; exact hzR)
          · exact hfeed2 q1 q2 t (by rw [q3]; exact e) ht
        · rw [hA] at q; cases q
      simp only [runD] at g2
      cases hs : stepI h (S.its i) fr1 H1 with
      | none => rw [hs] at g2; cases g2
      | some q =>
        simp only [stepI] at hs
        have hw1 : wantedF fr1 (S.its i).guard = wantedF fr2 (S.its i).guard := wanted_agree huse
        rw [hw1] at hs
        cases hw : wantedF fr2 (S.its i).guard with
        | none => rw [hw] at hs; cases hs
        | some b =>
          cases b with
          | false => exact viaQuiet (.inr hw)
          | true =>
            rw [hw] at hs
            simp only at hs
            have hopk := hok.op
            cases hop : (S.its i).op with
            | a x =>
              rw [hop] at hs hopk
              simp only [rop] at hs
              cases hp : aop (evF fr1) x with
              | none => rw [hp] at hs; cases hs
              | some u =>
                obtain ⟨cs, e, k, mk⟩ := u
                have hux : ∀ t ∈ slotsOf x.opnds, t ∈ (S.its i).uses := fun t ht => by simp only [Item.uses, hop, List.mem_append]; exact .inl ht
                have hp2 : aop (evF fr2) x = some (cs, e, k, mk) := by
                  rw [← hp]; exact aop_congr (evF_agree fun t ht => (huse t (hux t ht)).symm)
                have hag := patch_agree (S := S) (lag := lag2) (fr := fr2) hfeed2
                have hp3 : aop (evF (patch S lag2 fr2)) x = some (cs, e, k, mk) := by
                  rw [← hp2]; exact aop_congr (evF_agree fun t ht => (hag t (hux t ht)).symm)
                have hFR := C2.patched
                have hwr := wanted_rel hok hFR (b := true) (by rw [← wanted_agree hag]; exact hw)
                cases hopk with
                | a hsound =>
                  obtain ⟨hk, sz, hsz, hrun2⟩ := hsound β2 (evF (patch S lag2 fr2)) a.eval o cs e k mk rfl (fun y hy => evF_rel hFR (hok.opnds y hy)) hp3
                  obtain ⟨cs', frz, w', v', h1, h2, h3, h4, h5, h6, h7, h8, h9, h10⟩ := hrun2 w
                  refine wpOpIn_some ho (fun _ => trivial) (fun _ => ?_) (fun g => by rw [hwr] at g; cases g)
                  refine ⟨fun f _ => trivial, ?_⟩
                  rw [show (Fn ro).round = ro from rfl, Oper.semAt_eq ro _ _ hok.nodefer, h1]
                  show K (a.put o.dst v') w'
                  have hb : w'.heap[w.heap.size]? = some (.cells cs' e frz) := by rw [h2]; simp
                  refine close (C2.nextLag hik hiR2 hil2 hA hanc2 hfeed2 h2 h3 h4 h5 hlt ⟨⟨x, cs, e, k, mk, cs', frz, sz, v', hop, hw, hp2, hk, hsz, hb, h6, h7, h8, h9, h10, fun t ht => ?_⟩, C2.sim.base, C2.evo.size, fun z hz => ?_⟩) fun j => ?_
                  · rw [ht]
                    have : t < a.tmps.size := Nat.lt_of_lt_of_le (hlt t ht) C2.size
                    simp [Act.put, this]
                  · have := (owns_ge C2.sim hz).2; omega
                  · unfold Ex
                    constructor
                    · rintro (g | ⟨q, q1, q2⟩)
                      · exact .inr ((hE2 j).1 (.inl g))
                      · rcases List.mem_cons.1 q1 with rfl | q1
                        · exact .inl q2.symm
                        · exact .inr ((hE2 j).1 (.inr ⟨q, q1, q2⟩))
                    · rintro (e | g)
                      · exact .inr ⟨_, List.mem_cons_self .., e.symm⟩
                      · rcases (hE2 j).2 g with g | ⟨q, q1, q2⟩
                        · exact .inl g
                        · exact .inr ⟨q, List.mem_cons_of_mem _ q1, q2⟩
            | _ => rw [hop] at hA; cases hA
theorem Core.all : ∀ (R : List Nat) {β : Nat → Ent} {fr : Fr} {H : CH} {lag : List (Nat × Nat)} {l : List CH} {m : Nat} {a : Act} {w : World} (C : Core S B h β0 w0 fr' H' β fr H R lag l m a w), (∀ x ∈ R, ∃ q ∈ lag, q.1 = x) →
    ∃ β2, Sim P B β2 H' w ∧ Evo β0 w0 β2 w ∧ FR β2 N fr' a
  | [], β, fr, H, lag, l, m, a, w, C, _ => by
    have hrun := C.run
    simp only [List.map_nil, runD, Option.some.injEq, Prod.mk.injEq] at hrun
    obtain ⟨rfl, rfl, _⟩ := hrun
    refine ⟨β, C.sim, C.evo, C.size, fun t => ?_⟩
    rcases C.fr t with ⟨p, hp, _⟩ | g
    · have := (C.lagR p hp).1; cases this
    · exact g
  | x :: R, β, fr, H, lag, l, m, a, w, C, hx => by
    obtain ⟨⟨x', b⟩, hq, rfl⟩ := hx x (List.mem_cons_self ..)
    have C' : Core S B h β0 w0 fr' H' β fr H ([] ++ x' :: R) lag l m a w := C
    obtain ⟨β2, fr2, H2, lag2, C2, hm, _⟩ := C'.catch hq (fun z hz => by cases hz)
    have hnm := C'.notmem
    exact Core.all R C2 fun z hz => by
      obtain ⟨q, q1, q2⟩ := hx z (List.mem_cons_of_mem _ hz)
      exact ⟨q, (hm q).2 ⟨q1, fun e => hnm (by rw [← e, q2]; simpa using hz)⟩, q2⟩
def cnt (k : Nat) (listed : Array Bool) : Nat := ((List.range k).filter fun j => !listed.getD j false).length
theorem cnt_set {listed : Array Bool} {i : Nat} (hi : i < ops.size) (hs : listed.size = ops.size) (hu : listed.getD i false = false) : cnt ops.size (listed.setIfInBounds i true) < cnt ops.size listed := by
  unfold cnt
  have : (List.range ops.size).filter (fun j => !(listed.setIfInBounds i true).getD j false) = ((List.range ops.size).filter fun j => !listed.getD j false).filter (fun j => decide (j ≠ i)) := by
    rw [List.filter_filter]
    apply List.filter_congr
    intro j hj
    by_cases e : j = i
    · subst e
      have : (listed.setIfInBounds j true).getD j false = true := getD_set.2 (.inl ⟨rfl, by omega⟩)
      simp [this]
    · have : (listed.setIfInBounds i true).getD j false = listed.getD j false := by
        cases hb : listed.getD j false with
        | true => exact getD_set.2 (.inr hb)
        | false =>
          cases hc : (listed.setIfInBounds i true).getD j false with
          | false => rfl
          | true =>
            rcases getD_set.1 hc with ⟨g, _⟩ | g
            · exact absurd g e
            · rw [hb] at g; cases g
      simp [this, e]
  rw [this]
  exact List.length_filter_lt_length_iff_exists.2 ⟨i, by simp [hi]; exact by simpa using hu, by simp⟩
theorem Inv.sound (hh : HS P B h) {ro : Option Nat} {df : List Deferred} {Q : Exit → Act → World → Prop} (hQ : ∀ β' w' a', Sim P B β' H' w' → Evo β0 w0 β' w' → FR β' N fr' a' → a'.defers = df → Q .normal a' w') : ∀ (fuel : Nat) (listed : Array Bool) (a : Act) (w : World),
    cnt ops.size listed ≤ fuel → Inv S B h β0 w0 fr' H' df listed a w → wpAnyIn (Fn ro) 0 P .any ops Q fuel listed a w := by
  have hdone : ∀ (listed : Array Bool) (a : Act) (w : World), Inv S B h β0 w0 fr' H' df listed a w → (∀ j, j < ops.size → listed.getD j false = true) → Q .normal a w := by
    intro listed a w I hall
    obtain ⟨β, fr, H, R, lag, l, m, C, hex⟩ := I.core
    obtain ⟨β2, h1, h2, h3⟩ := Core.all R C fun x hx => by
      rcases (hex x (C.lt x hx)).1 (hall x (C.lt x hx)) with g | g
      · exact absurd hx g
      · exact g
    exact hQ β2 w a h1 h2 h3 I.defers
  have hready : ∀ (listed : Array Bool), listed.size = ops.size → Region.ready .any ops listed = [] → ∀ j, j < ops.size → listed.getD j false = true := by
    intro listed hs hr j hj
    apply Classical.byContradiction
    intro hn
    have : ∃ p, ∃ j, j < ops.size ∧ ¬ listed.getD j false = true ∧ S.pos j = p := ⟨_, j, hj, hn, rfl⟩
    obtain ⟨p, ⟨x, x1, x2, x3⟩, hmin⟩ := least_ex this
    have hx : x ∈ Region.ready .any ops listed := by
      unfold Region.ready
      refine List.mem_filter.2 ⟨List.mem_range.2 x1, ?_⟩
      have hxs : x < listed.size := by omega
      have hf : listed.getD x true = false := by
        simp only [Array.getD_eq_getD_getElem?, Array.getElem?_eq_getElem hxs, Option.getD_some] at x2 ⊢
        simpa using x2
      rw [hf]
      simp only [Bool.not_false, Bool.true_and]
      rw [Array.getElem?_eq_getElem x1]
      simp only [Option.map_some, Option.getD_some]
      rw [Array.all_eq_true_iff_forall_mem]
      intro e he
      cases hb : Region.binds .any e with
      | false => rfl
      | true =>
        simp only [Bool.not_true, Bool.false_or]
        obtain ⟨q1, q2⟩ := S.ancp x e.on x1 (.edge (Array.getElem?_eq_getElem x1) (by simpa using he) hb)
        apply Classical.byContradiction
        intro g
        have := hmin _ ⟨e.on, q1, g, rfl⟩
        omega
    rw [hr] at hx
    cases hx
  intro fuel
  induction fuel with
  | zero =>
    intro listed a w hc I
    have hz : cnt ops.size listed = 0 := by omega
    have hall : ∀ j, j < ops.size → listed.getD j false = true := fun j hj => by
      unfold cnt at hz
      have := List.length_eq_zero_iff.1 hz
      rw [List.filter_eq_nil_iff] at this
      simpa using this j (List.mem_range.2 hj)
    refine ⟨?_, hdone listed a w I hall⟩
    apply List.eq_nil_iff_forall_not_mem.2
    intro x hx
    obtain ⟨h1, h2, _⟩ := ready_spec hx
    have := hall x h1
    have hxs : x < listed.size := by rw [I.size]; exact h1
    simp only [Array.getD_eq_getD_getElem?, Array.getElem?_eq_getElem hxs, Option.getD_some] at h2 this
    rw [this] at h2; cases h2
  | succ fuel ih =>
    intro listed a w hc I
    refine ⟨fun hr => hdone listed a w I (hready listed I.size hr), fun i hi => I.step hh hi fun a' w' I' => ih _ a' w' ?_ I'⟩
    obtain ⟨h1, h2, _⟩ := ready_spec hi
    have hxs : i < listed.size := by rw [I.size]; exact h1
    have : listed.getD i false = false := by
      simp only [Array.getD_eq_getD_getElem?, Array.getElem?_eq_getElem hxs, Option.getD_some] at h2 ⊢
      exact h2
    have := cnt_set h1 I.size this
    omega
end
/-- A region that draws its order: its canonical run is what it does, in whatever order. -/
theorem dok_of {N : Nat} {ops : Array Oper} {d : DReg} (S : DS P N ops d) (hm : P.follows .mixedOrders = true) : DOk P N ops d := by
  intro B h ro β fr fr' H H' a w id Q hh hS hf hr hQ
  refine wpIn_region_any hm ?_
  unfold evD at hr
  cases hrun : runD h d.its fr H with
  | none => rw [hrun] at hr; cases hr
  | some q =>
    obtain ⟨f, K, l⟩ := q
    rw [hrun] at hr
    simp only at hr
    split at hr
    rotate_left
    · cases hr
    rename_i hchk
    simp only [Option.some.injEq, Prod.mk.injEq] at hr
    obtain ⟨rfl, rfl⟩ := hr
    obtain ⟨hS', hE'⟩ := hS.drew
    refine Inv.sound (S := S) (β0 := β) (w0 := w) (fr' := f) (H' := K) hh (df := a.defers) hQ ops.size _ a _ ?_ ⟨⟨β, fr, H, S.tau, [], l, 0, ?_, fun j hj => ?_⟩, fun i j hij _ => ?_, by simp, rfl⟩
    · unfold cnt
      exact Nat.le_trans (List.length_filter_le _ _) (by simp)
    · refine ⟨fun i hi => (S.mem i).1 hi, S.srt, fun p hp => (by cases hp), fun p hp => (by cases hp), List.Pairwise.nil, fun p hp => (by cases hp), fun p hp => (by cases hp), by rw [← S.hits]; exact hrun, hS', hE', hf.1, fun t => .inr (hf.2 t), fun x hx hxW => ?_, fun q hq => absurd hq (Nat.not_lt_zero _), fun y hy hyW hyR => absurd ((S.mem y).2 hy) hyR, fun r hr s hs _ _ _ => ?_⟩
      · exact ⟨fun g => absurd ((S.mem x).2 hx) g, fun g => absurd g (Nat.not_lt_zero _)⟩
      · obtain ⟨G, g1, g2⟩ := hchk _ hs
        exact ⟨G, by simpa using g1, g2⟩
    · unfold Ex
      have : (Array.replicate ops.size false).getD j false = false := by simp [Array.getD_eq_getD_getElem?, hj]
      rw [this]
      constructor
      · intro g; cases g
      · rintro (g | ⟨q, hq, _⟩)
        · exact absurd ((S.mem j).2 hj) g
        · cases hq
    · rename_i hi'
      by_cases hi : i < ops.size
      · simp [Array.getD_eq_getD_getElem?, hi] at hij
      · simp [Array.getD_eq_getD_getElem?, hi] at hij
end Can
end Go.Proofs.Ytmpojphjongdcaa
