/- Canonical runs: regions that draw their order, brought into canonical form. Over any program. -/
import Derived.Test.YtmpojphjongdcaaCanT
namespace Go.Proofs.Ytmpojphjongdcaa
namespace Can
open Go Go.RowKit
set_option linter.unusedSimpArgs false
set_option linter.unusedVariables false
variable {P : Program}

/-- What comes before each operation, as bits. -/
def maskOf (acc : List Nat) (o : Oper) : Nat := o.after.toList.foldl (fun s e => if Region.binds .any e then s ||| (2 ^ e.on ||| acc.getD e.on 0) else s) 0
def masks : List Oper → List Nat → List Nat
  | [], acc => acc
  | o :: r, acc => masks r (acc ++ [maskOf acc o])
theorem mask_fold {ops : Array Oper} {acc : List Nat} {i : Nat} {o : Oper} (ho : ops[i]? = some o) (hacc : ∀ a j, (acc.getD a 0).testBit j = true → Anc ops a j) : ∀ (es : List Edge) (s : Nat), (∀ e ∈ es, e ∈ o.after.toList) → (∀ j, s.testBit j = true → Anc ops i j) →
    ∀ j, (es.foldl (fun s e => if Region.binds .any e then s ||| (2 ^ e.on ||| acc.getD e.on 0) else s) s).testBit j = true → Anc ops i j
  | [], s, _, hs => hs
  | e :: es, s, he, hs => by
    simp only [List.foldl_cons]
    refine mask_fold ho hacc es _ (fun x hx => he x (List.mem_cons_of_mem _ hx)) fun j hj => ?_
    split at hj
    · rename_i hb
      rw [Nat.testBit_or, Nat.testBit_or] at hj
      simp only [Bool.or_eq_true] at hj
      have hedge : Anc ops i e.on := .edge ho (he e (List.mem_cons_self ..)) hb
      rcases hj with g | g | g
      · exact hs j g
      · rw [Nat.testBit_two_pow] at g
        have : e.on = j := by simpa using g
        rw [← this]; exact hedge
      · exact .trans hedge (hacc _ _ g)
    · exact hs j hj
theorem masks_spec {ops : Array Oper} : ∀ (l : List Oper) (acc : List Nat), (∀ k (h : k < l.length), ops[acc.length + k]? = some l[k]) → (∀ a j, (acc.getD a 0).testBit j = true → Anc ops a j) → ∀ a j, ((masks l acc).getD a 0).testBit j = true → Anc ops a j
  | [], acc, _, hacc => hacc
  | o :: l, acc, hl, hacc => by
    have h0 := hl 0 (by simp)
    simp only [Nat.add_zero, List.getElem_cons_zero] at h0
    refine masks_spec l _ (fun k hk => ?_) fun a j hj => ?_
    · have := hl (k + 1) (by simpa using hk)
      simp only [List.length_append, List.length_singleton, List.getElem_cons_succ] at this ⊢
      rw [show acc.length + 1 + k = acc.length + (k + 1) by omega]; exact this
    · rw [List.getD_eq_getElem?_getD] at hj
      by_cases e : a < acc.length
      · rw [List.getElem?_append_left e, ← List.getD_eq_getElem?_getD] at hj
        exact hacc a j hj
      · rw [List.getElem?_append_right (by omega)] at hj
        by_cases e2 : a = acc.length
        · subst e2
          simp only [Nat.sub_self, List.getElem?_cons_zero, Option.getD_some] at hj
          exact mask_fold h0 hacc _ 0 (fun _ h => h) (fun j h => by simp at h) j hj
        · obtain ⟨q, hq⟩ : ∃ q, a - acc.length = q + 1 := ⟨a - acc.length - 1, by omega⟩
          rw [hq] at hj
          simp at hj
def dItem : Item := ⟨none, .p (.mov (.const undef)), none⟩
/-- An order: each writing operation behind all that comes before it, as soon as may be; the rest behind. -/
def orderOf (k : Nat) (its : Nat → Item) (ms : List Nat) : List Nat :=
  let ws := (List.range k).filter fun i => isW (its i).op
  let l := ws.foldl (fun acc w => acc ++ ((List.range k).filter fun i => (ms.getD w 0).testBit i && !acc.contains i) ++ (if acc.contains w then [] else [w])) []
  l ++ (List.range k).filter fun i => !l.contains i
structure DD where
  k : Nat
  its : Nat → Item
  ms : List Nat
  tau : List Nat
  pos : Nat → Nat
  rk : Nat → Nat
  lo : Nat → Nat
def DD.anc (D : DD) (i j : Nat) : Bool := (D.ms.getD i 0).testBit j
def DD.w (D : DD) (i : Nat) : Bool := isW (D.its i).op
def DD.a (D : DD) (i : Nat) : Bool := isA (D.its i).op
def allN (k : Nat) (p : Nat → Bool) : Bool := (List.range k).all p
theorem allN_spec {k : Nat} {p : Nat → Bool} (h : allN k p = true) : ∀ i, i < k → p i = true := fun i hi => List.all_eq_true.1 h i (List.mem_range.2 hi)
def anyN (k : Nat) (p : Nat → Bool) : Bool := (List.range k).any p
theorem anyN_spec {k : Nat} {p : Nat → Bool} (h : anyN k p = true) : ∃ i, i < k ∧ p i = true := by
  obtain ⟨i, h1, h2⟩ := List.any_eq_true.1 h
  exact ⟨i, List.mem_range.1 h1, h2⟩
def impB (a b : Bool) : Bool := !a || b
theorem impB_spec {a b : Bool} (h : impB a b = true) (ha : a = true) : b = true := by subst ha; simpa [impB] using h
def feeds (x y : Item) : Bool := match x.dst with
  | some t => y.uses.contains t
  | none => false
theorem feeds_of {x y : Item} {t : Nat} (h : x.dst = some t) (hu : t ∈ y.uses) : feeds x y = true := by simp [feeds, h, hu]
def sameDst (x y : Item) : Bool := match x.dst, y.dst with
  | some s, some t => s == t
  | _, _ => false
def guardBy (x y : Item) : Bool := match x.dst, y.guard with
  | some t, some (s, _) => s == t
  | _, _ => false
def isL : ROp → Bool
  | .l _ => true
  | _ => false
def DD.free (D : DD) (r : Nat) : Bool := allN D.k fun x => impB (decide (D.pos x < D.pos r)) (impB (D.w x) (D.anc r x) && impB (D.a x) (anyN D.k (fun y => D.w y && decide (D.pos x < D.pos y) && D.anc r y) || feeds (D.its x) (D.its r)))
def DD.hi (D : DD) (r : Nat) : Nat := ((List.range D.k).filter fun x => D.w x && decide (D.pos x ≤ D.pos r)).length
def DD.chk (D : DD) : List (Item × Nat) := (List.range D.k).flatMap fun r => if isL (D.its r).op && !D.free r then ((List.range (D.hi r + 1)).filter fun s => decide (D.lo r ≤ s)).map fun s => (D.its r, s) else []
def DD.ok (D : DD) (ops : Array Oper) : Bool :=
  decide (D.tau.Pairwise fun a b => D.pos a < D.pos b) && allN D.k (fun i => D.tau.contains i) && D.tau.all (fun i => decide (i < D.k)) &&
  allN D.k (fun i => match ops[i]? with
    | some o => o.after.toList.all fun e => impB (Region.binds .any e) (decide (e.on < D.k) && decide (D.pos e.on < D.pos i))
    | none => true) &&
  allN D.k (fun i => allN D.k fun j =>
    impB (sameDst (D.its i) (D.its j)) (decide (i = j)) &&
    impB (!decide (i = j) && feeds (D.its i) (D.its j)) (D.anc j i || (D.anc i j && !D.a j)) &&
    impB (D.a i) (!guardBy (D.its i) (D.its j)) &&
    impB (D.w j && decide (D.pos i < D.pos j)) (D.anc j i) &&
    impB (!D.w i && D.a j && feeds (D.its j) (D.its i)) (allN D.k fun x => impB (decide (D.pos x < D.pos j)) (impB (D.w x) (D.anc i x) && impB (D.a x) (anyN D.k fun y => D.w y && decide (D.pos x < D.pos y) && decide (D.pos y < D.pos j)))) &&
    impB (D.w i && D.w j) (impB (decide (D.rk i < D.rk j)) (decide (D.pos i < D.pos j)) && impB (decide (D.rk i = D.rk j)) (decide (i = j))) &&
    impB (D.w j) (decide (D.rk j < D.hi i) || decide (D.pos i < D.pos j))) &&
  allN D.k (fun j => impB (D.a j) (!feeds (D.its j) (D.its j)) &&
    impB (D.w j) (allN (D.rk j) fun q => anyN D.k fun y => D.w y && decide (D.rk y = q)) &&
    allN (D.lo j) (fun q => anyN D.k fun x => D.w x && decide (D.rk x = q) && D.anc j x) &&
    impB (isL (D.its j).op) (D.free j || allN D.k fun i => impB (feeds (D.its i) (D.its j)) (D.anc j i)))
def ddOf (ops : Array Oper) (l : List Item) : DD :=
  let k := ops.size
  let its := fun i => l.getD i dItem
  let ms := masks ops.toList []
  let tau := orderOf k its ms
  let pos := fun i => tau.idxOf i
  let rk := fun i => ((List.range k).filter fun x => isW (its x).op && decide (pos x < pos i)).length
  { k, its, ms, tau, pos, rk, lo := fun r => ((List.range k).filter fun x => isW (its x).op && (ms.getD r 0).testBit x).length }
def resD (P : Program) (N : Nat) (ops : Array Oper) : Option DReg :=
  match resItems P N ops ops.toList with
  | some l => if P.follows .mixedOrders && (ddOf ops l).ok ops then some ⟨(ddOf ops l).tau.map (ddOf ops l).its, (ddOf ops l).chk⟩ else none
  | none => none
theorem resD_ok {N : Nat} {ops : Array Oper} {d : DReg} (h : resD P N ops = some d) : DOk P N ops d := by
  unfold resD at h
  split at h
  rotate_left
  · cases h
  rename_i l hl
  split at h
  rotate_left
  · cases h
  rename_i hg
  simp only [Bool.and_eq_true] at hg
  obtain ⟨hm, hok⟩ := hg
  simp only [Option.some.injEq] at h
  obtain ⟨hlen, hits⟩ := resItems_ok hl
  have hanc : ∀ i j, (ddOf ops l).anc i j = true → Anc ops i j := fun i j hij =>
    masks_spec ops.toList [] (fun k hk => by simp only [List.length_nil, Nat.zero_add]; have hk' : k < ops.size := by simpa using hk
                                             simp [hk']) (fun a j hj => by simp at hj) i j hij
  have hitem : ∀ i o, ops[i]? = some o → ItemOk P N ops o ((ddOf ops l).its i) := fun i o ho => by
    obtain ⟨hi, rfl⟩ := Array.getElem?_eq_some_iff.1 ho
    have hil : i < l.length := by rw [hlen]; simpa using hi
    have := hits i hil (by simpa using hi)
    rw [Array.getElem_toList] at this
    show ItemOk P N ops ops[i] (l.getD i dItem)
    rw [List.getD_eq_getElem?_getD, List.getElem?_eq_getElem hil]
    exact this
  generalize hD : ddOf ops l = D at *
  have hk : D.k = ops.size := by rw [← hD]; rfl
  unfold DD.ok at hok
  simp only [Bool.and_eq_true] at hok
  obtain ⟨⟨⟨⟨⟨o1, o2⟩, o3⟩, o4⟩, o5⟩, o6⟩ := hok
  have c5 := fun i j (hi : i < ops.size) (hj : j < ops.size) => allN_spec (allN_spec o5 i (by omega)) j (by omega)
  simp only [Bool.and_eq_true] at c5
  have c6 := fun j (hj : j < ops.size) => allN_spec o6 j (by omega)
  simp only [Bool.and_eq_true] at c6
  have hancp : ∀ i j, Anc ops i j → i < ops.size → j < ops.size ∧ D.pos j < D.pos i := by
    intro i j ha
    induction ha with
    | @edge i o e ho he hb =>
      intro hi
      have := allN_spec o4 i (by omega)
      rw [ho] at this
      have := impB_spec (List.all_eq_true.1 this e he) hb
      simp only [Bool.and_eq_true, decide_eq_true_eq] at this
      exact ⟨by omega, this.2⟩
    | @trans i j m h k ih1 ih2 =>
      intro hi
      obtain ⟨a1, a2⟩ := ih1 hi
      obtain ⟨b1, b2⟩ := ih2 a1
      exact ⟨b1, by omega⟩
  refine dok_of (S := ⟨D.its, hitem, D.tau, by rw [← h], fun i => ?_, D.pos, of_decide_eq_true o1, fun i j hi ha => hancp i j ha hi, fun i j t hi hj h1 h2 => ?_, fun i j t hi hj hne h1 h2 => ?_, fun j t hj h1 h2 hu => ?_, fun i j t b hi hj h1 h2 h3 => ?_, fun i j hi hj h1 h2 => ?_,
    fun dd i t hd hi h1 h2 h3 h4 x hx hp => ?_, D.rk, fun x y hx hy h1 h2 h3 => ?_, fun x q hx h1 h2 => ?_, fun x y hx hy h1 h2 h3 => ?_, D.lo, D.hi, fun r q hr hq => ?_, fun r x hr hx h1 => ?_, fun r x hr h1 => ?_⟩) hm
  · constructor
    · intro hi; have := List.all_eq_true.1 o3 i hi; have := of_decide_eq_true this; omega
    · intro hi; have := allN_spec o2 i (by omega); simpa using this
  · have := impB_spec (c5 i j hi hj).1.1.1.1.1.1 (by simp [sameDst, h1, h2])
    exact of_decide_eq_true this
  · have := impB_spec (c5 i j hi hj).1.1.1.1.1.2 (by simp [hne, feeds_of h1 h2])
    simp only [Bool.or_eq_true, Bool.and_eq_true, Bool.not_eq_true'] at this
    rcases this with g | ⟨g, g'⟩
    · exact .inl (hanc _ _ g)
    · exact .inr ⟨hanc _ _ g, g'⟩
  · have := impB_spec (c6 j hj).1.1.1 h1
    rw [feeds_of h2 hu] at this; cases this
  · have := impB_spec (c5 i j hi hj).1.1.1.1.2 h1
    simp [guardBy, h2, h3] at this
  · exact hanc _ _ (impB_spec (c5 i j hi hj).1.1.1.2 (by simp only [Bool.and_eq_true, decide_eq_true_eq]; exact ⟨h1, h2⟩))
  · have := impB_spec (c5 dd i hd hi).1.1.2 (by simp only [Bool.and_eq_true, Bool.not_eq_true']; exact ⟨⟨h1, h2⟩, feeds_of h3 h4⟩)
    have := impB_spec (allN_spec this x (by omega)) (by simpa using hp)
    simp only [Bool.and_eq_true] at this
    refine ⟨fun g => hanc _ _ (impB_spec this.1 g), fun g => ?_⟩
    obtain ⟨y, y1, y2⟩ := anyN_spec (impB_spec this.2 g)
    simp only [Bool.and_eq_true, decide_eq_true_eq] at y2
    exact ⟨y, by omega, y2.1.1, y2.1.2, y2.2⟩
  · have := impB_spec (c5 x y hx hy).1.2 (by simp only [Bool.and_eq_true]; exact ⟨h1, h2⟩)
    simp only [Bool.and_eq_true] at this
    exact of_decide_eq_true (impB_spec this.1 (by simpa using h3))
  · obtain ⟨y, y1, y2⟩ := anyN_spec (allN_spec (impB_spec (c6 x hx).1.1.2 h1) q h2)
    simp only [Bool.and_eq_true, decide_eq_true_eq] at y2
    exact ⟨y, by omega, y2.1, y2.2⟩
  · have := impB_spec (c5 x y hx hy).1.2 (by simp only [Bool.and_eq_true]; exact ⟨h1, h2⟩)
    simp only [Bool.and_eq_true] at this
    exact of_decide_eq_true (impB_spec this.2 (by simpa using h3))
  · obtain ⟨y, y1, y2⟩ := anyN_spec (allN_spec (c6 r hr).1.2 q hq)
    simp only [Bool.and_eq_true, decide_eq_true_eq] at y2
    exact ⟨y, by omega, y2.1.1, y2.1.2, hanc _ _ y2.2⟩
  · have := impB_spec (c5 r x hr hx).2 h1
    simpa using this
  · have hL : isL (D.its r).op = true := by rw [h1]; rfl
    have := impB_spec (c6 r hr).2 hL
    rw [Bool.or_eq_true] at this
    cases hf : D.free r with
    | true =>
      left
      intro x hx hp
      have := impB_spec (allN_spec hf x (by omega)) (by simpa using hp)
      simp only [Bool.and_eq_true] at this
      refine ⟨fun g => hanc _ _ (impB_spec this.1 g), fun g => ?_⟩
      have := impB_spec this.2 g
      rw [Bool.or_eq_true] at this
      rcases this with g | g
      · obtain ⟨y, y1, y2⟩ := anyN_spec g
        simp only [Bool.and_eq_true, decide_eq_true_eq] at y2
        exact .inl ⟨y, by omega, y2.1.1, y2.1.2, hanc _ _ y2.2⟩
      · right
        unfold feeds at g
        cases hd : (D.its x).dst with
        | none => rw [hd] at g; cases g
        | some t => rw [hd] at g; exact ⟨t, rfl, by simpa using g⟩
    | false =>
      right
      rw [hf] at this
      simp only [Bool.false_eq_true, false_or] at this
      refine ⟨fun t j ht hj hd => hanc _ _ (impB_spec (allN_spec this j (by omega)) (feeds_of hd ht)), fun s s1 s2 => ?_⟩
      rw [← h]
      show (D.its r, s) ∈ D.chk
      unfold DD.chk
      refine List.mem_flatMap.2 ⟨r, List.mem_range.2 (by omega), ?_⟩
      rw [hL, hf]
      simp only [Bool.not_false, Bool.and_self, if_true]
      exact List.mem_map.2 ⟨s, List.mem_filter.2 ⟨List.mem_range.2 (by omega), by simpa using s1⟩, rfl⟩
end Can
end Go.Proofs.Ytmpojphjongdcaa
