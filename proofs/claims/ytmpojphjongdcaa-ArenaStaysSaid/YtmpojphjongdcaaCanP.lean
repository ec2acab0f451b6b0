/- Canonical runs: regions that draw their order. Over any program. -/
import Derived.Test.YtmpojphjongdcaaCanO
namespace Go.Proofs.Ytmpojphjongdcaa
namespace Can
open Go Go.RowKit
set_option linter.unusedSimpArgs false
set_option linter.unusedVariables false
variable {P : Program} {B : Nat}

/-- What is asked of a region and of the order in which its canonical run does it. -/
structure DS (P : Program) (N : Nat) (ops : Array Oper) (d : DReg) where
  its : Nat → Item
  ok : ∀ i o, ops[i]? = some o → ItemOk P N ops o (its i)
  tau : List Nat
  hits : d.its = tau.map its
  mem : ∀ i, i ∈ tau ↔ i < ops.size
  pos : Nat → Nat
  srt : tau.Pairwise (fun a b => pos a < pos b)
  ancp : ∀ i j, i < ops.size → Anc ops i j → j < ops.size ∧ pos j < pos i
  dd : ∀ i j t, i < ops.size → j < ops.size → (its i).dst = some t → (its j).dst = some t → i = j
  d2 : ∀ i j t, i < ops.size → j < ops.size → i ≠ j → (its i).dst = some t → t ∈ (its j).uses → Anc ops j i ∨ (Anc ops i j ∧ isA (its j).op = false)
  d2' : ∀ j t, j < ops.size → isA (its j).op = true → (its j).dst = some t → t ∉ (its j).uses
  ga : ∀ i j t b, i < ops.size → j < ops.size → isA (its i).op = true → (its i).dst = some t → (its j).guard ≠ some (t, b)
  d4 : ∀ i j, i < ops.size → j < ops.size → isW (its j).op = true → pos i < pos j → Anc ops j i
  s2 : ∀ d i t, d < ops.size → i < ops.size → isW (its d).op = false → isA (its i).op = true → (its i).dst = some t → t ∈ (its d).uses → ∀ x, x < ops.size → pos x < pos i →
    (isW (its x).op = true → Anc ops d x) ∧ (isA (its x).op = true → ∃ y, y < ops.size ∧ isW (its y).op = true ∧ pos x < pos y ∧ pos y < pos i)
  rk : Nat → Nat
  rk1 : ∀ x y, x < ops.size → y < ops.size → isW (its x).op = true → isW (its y).op = true → rk x < rk y → pos x < pos y
  rk2 : ∀ x q, x < ops.size → isW (its x).op = true → q < rk x → ∃ y, y < ops.size ∧ isW (its y).op = true ∧ rk y = q
  rk3 : ∀ x y, x < ops.size → y < ops.size → isW (its x).op = true → isW (its y).op = true → rk x = rk y → x = y
  lo : Nat → Nat
  hi : Nat → Nat
  lo1 : ∀ r q, r < ops.size → q < lo r → ∃ x, x < ops.size ∧ isW (its x).op = true ∧ rk x = q ∧ Anc ops r x
  hi1 : ∀ r x, r < ops.size → x < ops.size → isW (its x).op = true → rk x < hi r ∨ pos r < pos x
  rd : ∀ r x, r < ops.size → (its r).op = .l x →
    (∀ x, x < ops.size → pos x < pos r → (isW (its x).op = true → Anc ops r x) ∧ (isA (its x).op = true → (∃ y, y < ops.size ∧ isW (its y).op = true ∧ pos x < pos y ∧ Anc ops r y) ∨ ∃ t, (its x).dst = some t ∧ t ∈ (its r).uses)) ∨
    ((∀ t j, t ∈ (its r).uses → j < ops.size → (its j).dst = some t → Anc ops r j) ∧ ∀ s, lo r ≤ s → s ≤ hi r → (its r, s) ∈ d.chk)

/-- New memory that was made, of which the canonical run does not know yet. -/
structure LagF (P : Program) (B N : Nat) (w0 : World) (β : Nat → Ent) (fr : Fr) (a : Act) (w : World) (it : Item) (b : Nat) : Prop where
  ex : ∃ x cs e k mk cs' frz sz v', it.op = .a x ∧ wantedF fr it.guard = some true ∧ aop (evF fr) x = some (cs, e, k, mk) ∧ k ≠ .ro ∧ (P.info? e).map (·.size) = some sz ∧ w.heap[b]? = some (.cells cs' e frz) ∧
    cs.length ≤ cs'.size ∧ (k = .ex → cs.length = cs'.size) ∧ (∀ (i : Nat) (v : Value), cs[i]? = some v → ∃ u, cs'[i]? = some u ∧ VR β v u) ∧ (∀ i, i < cs'.size → (decide (frz.1 ≤ i) && decide (i < frz.2)) = false) ∧
    AKr mk b sz k cs'.size v' ∧ ∀ t, it.dst = some t → a.tmps.getD t undef = v'
  base : B ≤ b
  young : w0.heap.size ≤ b
  out : Out β b
structure Core {N : Nat} {ops : Array Oper} {d : DReg} (S : DS P N ops d) (B : Nat) (h : Hd) (β0 : Nat → Ent) (w0 : World) (fr' : Fr) (H' : CH) (β : Nat → Ent) (fr : Fr) (H : CH) (R : List Nat) (lag : List (Nat × Nat)) (l : List CH) (m : Nat) (a : Act) (w : World) : Prop where
  lt : ∀ i ∈ R, i < ops.size
  srt : R.Pairwise (fun x y => S.pos x < S.pos y)
  lagR : ∀ p ∈ lag, p.1 ∈ R ∧ isA (S.its p.1).op = true
  lagF : ∀ p ∈ lag, LagF P B N w0 β fr a w (S.its p.1) p.2
  lagD : lag.Pairwise (fun p q => p.1 ≠ q.1 ∧ p.2 ≠ q.2)
  lagAnc : ∀ p ∈ lag, ∀ j, Anc ops p.1 j → j ∉ R ∨ ∃ q ∈ lag, q.1 = j
  lagU : ∀ p ∈ lag, ∀ q ∈ lag, ∀ t, (S.its q.1).dst = some t → t ∉ (S.its p.1).uses
  run : runD h (R.map S.its) fr H = some (fr', H', l)
  sim : Sim P B β H w
  evo : Evo β0 w0 β w
  size : N ≤ a.tmps.size
  fr : ∀ t, (∃ p ∈ lag, (S.its p.1).dst = some t) ∨ VR β (fr t) (a.tmps.getD t undef)
  done : ∀ x, x < ops.size → isW (S.its x).op = true → (x ∉ R ↔ S.rk x < m)
  mW : ∀ q, q < m → ∃ y, y < ops.size ∧ isW (S.its y).op = true ∧ S.rk y = q
  past : ∀ y, y < ops.size → isW (S.its y).op = true → y ∉ R → ∀ x, x < ops.size → S.pos x < S.pos y → x ∉ R
  chk : ∀ r ∈ R, ∀ s, (S.its r, s) ∈ d.chk → S.lo r ≤ s → s ≤ S.hi r → m ≤ s → ∃ G, (H :: l)[s - m]? = some G ∧ Again fr' G (S.its r)
theorem Again.fill {fr : Fr} {G K : CH} {it : Item} (h : Again fr G it) (hf : Fill G K) : Again fr K it := by
  rcases h with h | ⟨x, d, h1, h2, h3⟩
  · exact .inl h
  · exact .inr ⟨x, d, h1, h2, lop_fill hf h3⟩
theorem fill_new {P : Program} {B : Nat} {β : Nat → Ent} {H : CH} {w : World} (h : Sim P B β H w) (o : CObj) : Fill H (H.new o) := fun l ⟨cs, e, k, hl⟩ => by
  have : l ≠ H.nx := fun g => by rw [g, h.nx _ (Nat.le_refl _)] at hl; cases hl
  simp [CH.new, this]
/-- Facts of memory made ahead stay. -/
theorem LagF.keep {N : Nat} {w0 : World} {β β' : Nat → Ent} {fr fr2 : Fr} {a a' : Act} {w w' : World} {it : Item} {b : Nat} (h : LagF P B N w0 β fr a w it b) (hx : EntExt β β') (hw : w'.heap[b]? = w.heap[b]?) (ho : Out β' b) (hf : ∀ t ∈ it.uses, fr2 t = fr t) (ha : ∀ t, it.dst = some t → a'.tmps.getD t undef = a.tmps.getD t undef) :
    LagF P B N w0 β' fr2 a' w' it b := by
  obtain ⟨⟨x, cs, e, k, mk, cs', frz, sz, v', h1, h2, h3, h4, h5, h6, h7, h8, h9, h10, h11, h12⟩, hb, hy, _⟩ := h
  refine ⟨⟨x, cs, e, k, mk, cs', frz, sz, v', h1, ?_, ?_, h4, h5, hw.trans h6, h7, h8, fun i v hv => let ⟨u, p, q⟩ := h9 i v hv; ⟨u, p, q.mono hx⟩, h10, h11, fun t ht => (ha t ht).trans (h12 t ht)⟩, hb, hy, ho⟩
  · rw [wanted_agree hf]; exact h2
  · rw [aop_congr (evF_agree fun t ht => hf t (by simp only [Item.uses, h1, List.mem_append]; exact .inl ht))]
    exact h3
theorem pw_mem {α : Type} {r : α → α → Prop} {R1 R2 : List α} {i : α} (h : (R1 ++ i :: R2).Pairwise r) : (∀ x ∈ R1, r x i) ∧ (∀ x ∈ R2, r i x) ∧ (R1 ++ R2).Pairwise r := by
  rw [List.pairwise_append] at h
  obtain ⟨h1, h2, h3⟩ := h
  rw [List.pairwise_cons] at h2
  refine ⟨fun x hx => h3 x hx i (List.mem_cons_self ..), h2.1, ?_⟩
  rw [List.pairwise_append]
  exact ⟨h1, h2.2, fun x hx y hy => h3 x hx y (List.mem_cons_of_mem _ hy)⟩
/-- The canonical run comes to know of memory that was made. -/
theorem Core.catch {N : Nat} {ops : Array Oper} {d : DReg} {S : DS P N ops d} {h : Hd} {β0 : Nat → Ent} {w0 : World} {fr' : Fr} {H' : CH} {β : Nat → Ent} {fr : Fr} {H : CH} {R1 R2 : List Nat} {i b : Nat} {lag : List (Nat × Nat)} {l : List CH} {m : Nat} {a : Act} {w : World}
    (C : Core S B h β0 w0 fr' H' β fr H (R1 ++ i :: R2) lag l m a w) (hl : (i, b) ∈ lag) (hq : ∀ x ∈ R1, isW (S.its x).op = false ∧ isA (S.its x).op = false) :
    ∃ β2 fr2 H2 lag2, Core S B h β0 w0 fr' H' β2 fr2 H2 (R1 ++ R2) lag2 l m a w ∧ (∀ p, p ∈ lag2 ↔ p ∈ lag ∧ p.1 ≠ i) ∧ lag2.length < lag.length := by
  obtain ⟨p1, p2, p3⟩ := pw_mem C.srt
  have hi : i < ops.size := C.lt i (by simp)
  have hiA : isA (S.its i).op = true := (C.lagR _ hl).2
  have hiW : isW (S.its i).op = false := by cases hop : (S.its i).op <;> rw [hop] at hiA <;> first | rfl | cases hiA
  obtain ⟨⟨x, cs, e, k, mk, cs', frz, sz, v', h1, h2, h3, h4, h5, h6, h7, h8, h9, h10, h11, h12⟩, hbB, hby, hout⟩ := C.lagF _ hl
  -- the run
  have hrun := C.run
  rw [List.map_append, List.map_cons] at hrun
  obtain ⟨fr1, H1, l1, l2, g1, g2, rfl⟩ := runD_app hrun
  obtain ⟨rfl, rfl⟩ := runD_quiet (fun y hy => by obtain ⟨z, hz, rfl⟩ := List.mem_map.1 hy; exact hq z hz) g1
  have hnot : ∀ z ∈ R1 ++ R2, z ≠ i := fun z hz e => by
    subst e
    rcases List.mem_append.1 hz with hz | hz
    · exact absurd (p1 z hz) (Nat.lt_irrefl _)
    · exact absurd (p2 z hz) (Nat.lt_irrefl _)
  have hlt : ∀ z ∈ R1 ++ R2, z < ops.size := fun z hz => C.lt z (by rcases List.mem_append.1 hz with hz | hz <;> simp [hz])
  have hlag1 : ∀ z ∈ R1, ¬ ∃ q ∈ lag, q.1 = z := fun z hz ⟨q, hq1, hq2⟩ => by
    have := (C.lagR q hq1).2
    rw [hq2, (hq z hz).2] at this; cases this
  have hanc : ∀ z ∈ R1, ¬ Anc ops i z := fun z hz ha => by
    rcases C.lagAnc _ hl z ha with g | g
    · exact g (by simp [hz])
    · exact hlag1 z hz g
  -- slots that 'i' looks at are not filled by what stands ahead
  have huse : ∀ t ∈ (S.its i).uses, fr1 t = fr t := fun t ht => by
    refine runD_keep (fun y hy e => ?_) g1
    obtain ⟨z, hz, rfl⟩ := List.mem_map.1 hy
    have hzl := hlt z (by simp [hz])
    rcases S.d2 z i t hzl hi (hnot z (by simp [hz])) e ht with q | ⟨q, q'⟩
    · exact hanc z hz q
    · rw [hiA] at q'; cases q'
  have hap : ∀ y ∈ R1.map S.its, ∀ t, (S.its i).dst = some t → t ∉ y.uses ∧ y.dst ≠ some t := fun y hy t ht => by
    obtain ⟨z, hz, rfl⟩ := List.mem_map.1 hy
    have hzl := hlt z (by simp [hz])
    refine ⟨fun hu => ?_, fun e => hnot z (by simp [hz]) (S.dd _ _ t hzl hi e ht)⟩
    rcases S.d2 i z t hi hzl (fun e => hnot z (by simp [hz]) e.symm) ht hu with q | ⟨q, _⟩
    · exact absurd (S.ancp _ _ hzl q).2 (by have := p1 z hz; omega)
    · exact hanc z hz q
  have hstep : ∀ f : Fr, (∀ t ∈ (S.its i).uses, f t = fr t) → stepI h (S.its i) f H1 = some (putF f (S.its i).dst (akV mk H1.nx), H1.new (.cells cs e k)) := fun f hf => by
    have hw : wantedF f (S.its i).guard = some true := by rw [wanted_agree hf]; exact h2
    have ha : aop (evF f) x = some (cs, e, k, mk) := by
      rw [aop_congr (evF_agree fun t ht => hf t (by simp only [Item.uses, h1, List.mem_append]; exact .inl ht))]; exact h3
    simp only [stepI, hw, h1, rop, ha, Option.map_some]
  have hs1 := hstep fr1 huse
  simp only [runD, hs1, hiW, Bool.false_eq_true, if_false] at g2
  have g2' : runD h (R2.map S.its) (putF fr1 (S.its i).dst (akV mk H1.nx)) (H1.new (.cells cs e k)) = some (fr', H', l2) := by
    cases hz : runD h (R2.map S.its) (putF fr1 (S.its i).dst (akV mk H1.nx)) (H1.new (.cells cs e k)) with
    | none => rw [hz] at g2; cases g2
    | some z => obtain ⟨z1, z2, z3⟩ := z; rw [hz] at g2; simpa using g2
  have hrun2 : runD h ((R1 ++ R2).map S.its) (putF fr (S.its i).dst (akV mk H1.nx)) (H1.new (.cells cs e k)) = some (fr', H', [] ++ l2) := by
    rw [List.map_append]
    exact runD_join (runD_fill (fill_new C.sim _) (fun y hy => by obtain ⟨z, hz, rfl⟩ := List.mem_map.1 hy; exact hq z hz) (runD_put hap g1)) g2'
  obtain ⟨q1, q2, q3⟩ := C.sim.adopt h6 hbB hout h4 h5 h7 h8 h9 h10
  have hmemf : ∀ p, p ∈ lag.filter (fun p => decide (p.1 ≠ i)) ↔ p ∈ lag ∧ p.1 ≠ i := fun p => by simp [List.mem_filter]
  refine ⟨upd β H1.nx (.live b sz cs'.size k), putF fr (S.its i).dst (akV mk H1.nx), H1.new (.cells cs e k), lag.filter (fun p => decide (p.1 ≠ i)), ?_, hmemf, List.length_filter_lt_length_iff_exists.2 ⟨_, hl, by simp⟩⟩
  have hneb : ∀ p ∈ lag, p.1 ≠ i → p.2 ≠ b := fun p hp hne e => by
    have key : ∀ (L : List (Nat × Nat)), L.Pairwise (fun p q => p.1 ≠ q.1 ∧ p.2 ≠ q.2) → p ∈ L → (i, b) ∈ L → False := by
      intro L
      induction L with
      | nil => intro _ hp; cases hp
      | cons y L ih =>
        intro hpw hp hib
        rw [List.pairwise_cons] at hpw
        rcases List.mem_cons.1 hp with rfl | hp2
        · rcases List.mem_cons.1 hib with e' | hib2
          · exact hne (by rw [← e'])
          · exact (hpw.1 _ hib2).2 e
        · rcases List.mem_cons.1 hib with e' | hib2
          · rw [← e'] at hpw; exact (hpw.1 _ hp2).2 e.symm
          · exact ih hpw.2 hp2 hib2
    exact key lag C.lagD hp hl
  refine ⟨hlt, p3, fun p hp => ?_, fun p hp => ?_, C.lagD.filter _, fun p hp j hj => ?_, fun p hp q hq' t ht => ?_, hrun2, q1, ?_, C.size, fun t => ?_, fun y hy hyW => ?_, C.mW, fun y hy hyW hyR z hz hzp => ?_, fun r hr s hs c1 c2 c3 => ?_⟩
  · obtain ⟨hp1, hp2⟩ := (hmemf p).1 hp
    refine ⟨?_, (C.lagR p hp1).2⟩
    have := (C.lagR p hp1).1
    simp only [List.mem_append, List.mem_cons] at this ⊢
    rcases this with g | g | g
    · exact .inl g
    · exact absurd g hp2
    · exact .inr g
  · obtain ⟨hp1, hp2⟩ := (hmemf p).1 hp
    refine (C.lagF p hp1).keep q2 rfl (q3 _ (hneb p hp1 hp2) (C.lagF p hp1).out) (fun t ht => putF_other fun e => C.lagU p hp1 _ hl t e ht) (fun t ht => rfl)
  · obtain ⟨hp1, hp2⟩ := (hmemf p).1 hp
    rcases C.lagAnc p hp1 j hj with g | ⟨q, hq1, rfl⟩
    · exact .inl fun hj' => g (by rcases List.mem_append.1 hj' with hj' | hj' <;> simp [hj'])
    · by_cases e : q.1 = i
      · refine .inl fun hj' => hnot _ hj' e
      · exact .inr ⟨q, (hmemf q).2 ⟨hq1, e⟩, rfl⟩
  · exact C.lagU p ((hmemf p).1 hp).1 q ((hmemf q).1 hq').1 t ht
  · refine ⟨C.evo.os, C.evo.tape, C.evo.output, C.evo.size, fun b' hb' ho' => ?_, C.evo.ext.trans q2⟩
    obtain ⟨r1, r2⟩ := C.evo.keep b' hb' ho'
    exact ⟨r1, q3 b' (by omega) r2⟩
  · by_cases et : (S.its i).dst = some t
    · right
      rw [et]
      simp only [putF, if_true]
      rw [h12 t et]
      cases mk with
      | ptr => simp only [AKr] at h11; subst h11; exact .ptr upd_same
      | sl n c =>
        obtain ⟨c', rfl, z1, z2, z3, z4, z5⟩ := h11
        exact .sl upd_same z1 z2 z3 (fun _ => by simpa using z4) z5
    · rw [putF_other et]
      rcases C.fr t with ⟨p, hp1, hp2⟩ | g
      · left
        refine ⟨p, (hmemf p).2 ⟨hp1, fun e => et (by rw [← e]; exact hp2)⟩, hp2⟩
      · exact .inr (g.mono q2)
  · have hyi : y ≠ i := fun e => by rw [e, hiW] at hyW; cases hyW
    rw [← C.done y hy hyW]
    simp only [List.mem_append, List.mem_cons, hyi, false_or]
  · have hyi : y ≠ i := fun e => by rw [e, hiW] at hyW; cases hyW
    have := C.past y hy hyW (by simp only [List.mem_append, List.mem_cons, hyi, false_or] at hyR ⊢; exact hyR) z hz hzp
    intro g
    exact this (by rcases List.mem_append.1 g with g | g <;> simp [g])
  · obtain ⟨G, z1, z2⟩ := C.chk r (by rcases List.mem_append.1 hr with hr | hr <;> simp [hr]) s hs c1 c2 c3
    cases hsm : s - m with
    | zero =>
      rw [hsm] at z1
      simp only [List.getElem?_cons_zero, Option.some.injEq] at z1 ⊢
      subst z1
      exact ⟨_, rfl, z2.fill (fill_new C.sim _)⟩
    | succ q =>
      rw [hsm] at z1
      simp only [List.getElem?_cons_succ] at z1 ⊢
      exact ⟨G, z1, z2⟩
/-- Done, or done and not yet known. -/
def Ex (R : List Nat) (lag : List (Nat × Nat)) (j : Nat) : Prop := j ∉ R ∨ ∃ q ∈ lag, q.1 = j
section
variable {N : Nat} {ops : Array Oper} {d : DReg} {S : DS P N ops d} {h : Hd} {β0 : Nat → Ent} {w0 : World} {fr' : Fr} {H' : CH} {β : Nat → Ent} {fr : Fr} {H : CH} {R : List Nat} {lag : List (Nat × Nat)} {l : List CH} {m : Nat} {a : Act} {w : World}
theorem ex_catch {R1 R2 : List Nat} {i b : Nat} {lag2 : List (Nat × Nat)} (hnot : i ∉ R1 ++ R2) (hl : (i, b) ∈ lag) (hm : ∀ p, p ∈ lag2 ↔ p ∈ lag ∧ p.1 ≠ i) (j : Nat) : Ex (R1 ++ R2) lag2 j ↔ Ex (R1 ++ i :: R2) lag j := by
  unfold Ex
  by_cases e : j = i
  · subst e
    exact ⟨fun _ => .inr ⟨_, hl, rfl⟩, fun _ => .inl hnot⟩
  · constructor
    · rintro (g | ⟨q, hq, rfl⟩)
      · refine .inl fun hj => g ?_
        simp only [List.mem_append, List.mem_cons, e, false_or] at hj ⊢; exact hj
      · exact .inr ⟨q, ((hm q).1 hq).1, rfl⟩
    · rintro (g | ⟨q, hq, rfl⟩)
      · refine .inl fun hj => g ?_
        simp only [List.mem_append, List.mem_cons, e, false_or] at hj ⊢; exact hj
      · exact .inr ⟨q, (hm q).2 ⟨hq, e⟩, rfl⟩
theorem Core.notmem {R1 R2 : List Nat} {i : Nat} (C : Core S B h β0 w0 fr' H' β fr H (R1 ++ i :: R2) lag l m a w) : i ∉ R1 ++ R2 := fun hm => by
  obtain ⟨p1, p2, _⟩ := pw_mem C.srt
  rcases List.mem_append.1 hm with g | g
  · exact absurd (p1 i g) (Nat.lt_irrefl _)
  · exact absurd (p2 i g) (Nat.lt_irrefl _)
theorem Core.wlag (C : Core S B h β0 w0 fr' H' β fr H R lag l m a w) {x : Nat} (hx : isW (S.its x).op = true) : ¬ ∃ q ∈ lag, q.1 = x := fun ⟨q, hq, e⟩ => by
  have := (C.lagR q hq).2
  rw [e] at this
  cases hop : (S.its x).op <;> rw [hop] at hx this <;> first | (cases hx; done) | (cases this; done)
/-- What an operation looks at is known. -/
theorem Core.feed : ∀ (n : Nat) {β : Nat → Ent} {fr : Fr} {H : CH} {R : List Nat} {lag : List (Nat × Nat)}, lag.length ≤ n → ∀ (C : Core S B h β0 w0 fr' H' β fr H R lag l m a w) {i : Nat}, i < ops.size → isW (S.its i).op = false → i ∈ R → (¬ ∃ q ∈ lag, q.1 = i) → (∀ j, Anc ops i j → Ex R lag j) →
    ∃ β2 fr2 H2 R2 lag2, Core S B h β0 w0 fr' H' β2 fr2 H2 R2 lag2 l m a w ∧ (∀ j, Ex R2 lag2 j ↔ Ex R lag j) ∧ i ∈ R2 ∧ (∀ q ∈ lag2, ∀ t, (S.its q.1).dst = some t → t ∉ (S.its i).uses) := by
  intro n
  induction n with
  | zero =>
    intro β fr H R lag hn C i hi hiW hiR hil hanc
    have : lag = [] := List.length_eq_zero_iff.1 (by omega)
    subst this
    exact ⟨β, fr, H, R, [], C, fun _ => Iff.rfl, hiR, fun q hq => by cases hq⟩
  | succ n ih =>
    intro β fr H R lag hn C i hi hiW hiR hil hanc
    by_cases hex : ∃ q ∈ lag, ∃ t, (S.its q.1).dst = some t ∧ t ∈ (S.its i).uses
    · obtain ⟨⟨x, b⟩, hq, t, ht, hu⟩ := hex
      obtain ⟨hxR, hxA⟩ := C.lagR _ hq
      simp only at hxR hxA ht
      have hx := C.lt x hxR
      obtain ⟨R1, R2, rfl⟩ := List.append_of_mem hxR
      have hs2 := S.s2 i x t hi hx hiW hxA ht hu
      obtain ⟨p1, p2, _⟩ := pw_mem C.srt
      have hquiet : ∀ z ∈ R1, isW (S.its z).op = false ∧ isA (S.its z).op = false := fun z hz => by
        have hzR : z ∈ R1 ++ x :: R2 := by simp [hz]
        have hzl := C.lt z hzR
        obtain ⟨s1, s2⟩ := hs2 z hzl (p1 z hz)
        refine ⟨?_, ?_⟩
        · cases hzw : isW (S.its z).op with
          | false => rfl
          | true =>
            rcases hanc z (s1 hzw) with g | g
            · exact absurd hzR g
            · exact absurd g (C.wlag hzw)
        · cases hza : isA (S.its z).op with
          | false => rfl
          | true =>
            obtain ⟨y, y1, y2, y3, y4⟩ := s2 hza
            have hy : y ∉ R1 ++ x :: R2 := by
              rcases hanc y ((hs2 y y1 y4).1 y2) with g | g
              · exact g
              · exact absurd g (C.wlag y2)
            exact absurd hzR (C.past y y1 y2 hy z hzl y3)
      obtain ⟨β2, fr2, H2, lag2, C2, hm, hlen⟩ := C.catch hq hquiet
      have hEx := fun j => ex_catch (R1 := R1) (R2 := R2) C.notmem hq hm j
      have hxi : i ≠ x := fun e => hil ⟨_, hq, e.symm⟩
      obtain ⟨β3, fr3, H3, R3, lag3, C3, e3, m3, f3⟩ := ih (by omega) C2 hi hiW (by simp only [List.mem_append, List.mem_cons, hxi, false_or] at hiR ⊢; exact hiR) (fun ⟨q, q1, q2⟩ => hil ⟨q, ((hm q).1 q1).1, q2⟩) (fun j hj => (hEx j).2 (hanc j hj))
      exact ⟨β3, fr3, H3, R3, lag3, C3, fun j => (e3 j).trans (hEx j), m3, f3⟩
    · exact ⟨β, fr, H, R, lag, C, fun _ => Iff.rfl, hiR, fun q hq t ht hu => hex ⟨q, hq, t, ht, hu⟩⟩
/-- What stands ahead of an operation that writes is known. -/
theorem Core.front : ∀ (R1 : List Nat) {R2 : List Nat} {i : Nat} {β : Nat → Ent} {fr : Fr} {H : CH} {lag : List (Nat × Nat)} (C : Core S B h β0 w0 fr' H' β fr H (R1 ++ i :: R2) lag l m a w), (∀ x ∈ R1, ∃ q ∈ lag, q.1 = x) →
    ∃ β2 fr2 H2 lag2, Core S B h β0 w0 fr' H' β2 fr2 H2 (i :: R2) lag2 l m a w ∧ (∀ j, Ex (i :: R2) lag2 j ↔ Ex (R1 ++ i :: R2) lag j)
  | [], R2, i, β, fr, H, lag, C, _ => ⟨β, fr, H, lag, C, fun _ => Iff.rfl⟩
  | x :: R1, R2, i, β, fr, H, lag, C, hx => by
    obtain ⟨⟨x', b⟩, hq, rfl⟩ := hx x (List.mem_cons_self ..)
    have C' : Core S B h β0 w0 fr' H' β fr H ([] ++ x' :: (R1 ++ i :: R2)) lag l m a w := C
    obtain ⟨β2, fr2, H2, lag2, C2, hm, hlen⟩ := C'.catch hq (fun z hz => by cases hz)
    have hEx := fun j => ex_catch (R1 := []) (R2 := R1 ++ i :: R2) C'.notmem hq hm j
    have hnm := C'.notmem
    obtain ⟨β3, fr3, H3, lag3, C3, e3⟩ := Core.front R1 C2 (fun z hz => by
      obtain ⟨q, q1, q2⟩ := hx z (List.mem_cons_of_mem _ hz)
      exact ⟨q, (hm q).2 ⟨q1, fun e => hnm (by rw [← e, q2]; simp [hz])⟩, q2⟩)
    exact ⟨β3, fr3, H3, lag3, C3, fun j => (e3 j).trans (hEx j)⟩
end
end Can
end Go.Proofs.Ytmpojphjongdcaa
