/- Canonical runs: literals; new memory. Over any program. -/
import Derived.Test.YtmpojphjongdcaaCanE
import Derived.Laws.MakeOwn
namespace Go.Proofs.Ytmpojphjongdcaa
namespace Can
open Go Go.RowKit
set_option linter.unusedSimpArgs false
set_option linter.unusedVariables false
variable {P : Program}

theorem fold_set (off : Nat) : ∀ (vs : List Value) (i : Nat) (cells : Array Value), off + i + vs.length ≤ cells.size →
    ((vs.zipIdx i).foldl (fun cs (x : Value × Nat) => cs.setIfInBounds (off + x.2) x.1) cells).toList = setCells cells.toList (off + i) vs
  | [], i, cells, _ => by simp [setCells]
  | v :: r, i, cells, h => by
    simp only [List.zipIdx_cons, List.foldl_cons]
    rw [fold_set off r (i + 1) _ (by simp at h ⊢; omega)]
    rw [Array.toList_setIfInBounds, show off + (i + 1) = (off + i) + 1 by omega, setCells_cons (by simp at h ⊢; omega)]
theorem VRs.set {β : Nat → Ent} {cs cs' us us' : List Value} {o : Nat} (h : VRs β cs cs') (hu : VRs β us us') : VRs β (setCells cs o us) (setCells cs' o us') := by
  have take : ∀ n, VRs β (cs.take n) (cs'.take n) := fun n => ⟨by simp [h.1], fun i v hv => by
    rw [List.getElem?_take] at hv ⊢
    split at hv
    · obtain ⟨v', a, b⟩ := h.2 i v hv; exact ⟨v', by simp [*], b⟩
    · cases hv⟩
  have drop : ∀ n, VRs β (cs.drop n) (cs'.drop n) := fun n => ⟨by simp [h.1], fun i v hv => by
    rw [List.getElem?_drop] at hv ⊢
    exact h.2 _ v hv⟩
  unfold setCells
  rw [hu.1]
  exact VRs.append (VRs.append (take o) hu) (drop _)
theorem setCells_len {cs us : List Value} {o : Nat} (h : o + us.length ≤ cs.length) : (setCells cs o us).length = cs.length := setCells_length h
theorem fill_rel {β : Nat → Ent} {ev ev' : Operand → Value} {place : Nat → Option (Nat × Nat)} : ∀ (ps : List (Nat × Operand)) (pl : List (Nat × Nat × Operand)) (z cs : List Value) (z' : Array Value),
    pl = ps.filterMap (fun p => (place p.1).map fun q => (q.1, q.2, p.2)) → (∀ p ∈ ps, (place p.1).isSome = true) → (∀ p ∈ ps, VR β (ev p.2) (ev' p.2)) → VRs β z z'.toList → bldV z (pl.map fun (o, s, x) => (o, s, ev x)) = some cs →
    ∃ cs', Instr.fill place z' (ps.map fun (i, x) => (i, ev' x)) = some cs' ∧ VRs β cs cs'.toList
  | [], pl, z, cs, z', hp, _, _, hz, h => by
    subst hp
    simp [bldV] at h
    subst h
    exact ⟨z', rfl, hz⟩
  | (i, x) :: ps, pl, z, cs, z', hp, hs, hv, hz, h => by
    subst hp
    have hi := hs (i, x) (List.mem_cons_self ..)
    obtain ⟨⟨off, size⟩, hpl⟩ := Option.isSome_iff_exists.1 hi
    simp only at hpl
    simp only [List.filterMap_cons, hpl, Option.map_some, List.map_cons, bldV] at h
    split at h
    · rename_i hg
      obtain ⟨g1, g2, g3⟩ := hg
      have hx := hv (i, x) (List.mem_cons_self ..)
      have hc := hx.cells g1
      have hl1 : (ev x).cells.size = (ev' x).cells.size := by simpa using hc.1
      have hzl : z.length = z'.size := by simpa using hz.1
      obtain ⟨cs', h1, h2⟩ := fill_rel (ev := ev) (ev' := ev') (place := place) ps _ (setCells z off (ev x).cells.toList) cs ((ev' x).cells.zipIdx.foldl (fun cs (x : Value × Nat) => cs.setIfInBounds (off + x.2) x.1) z') rfl
        (fun p hp => hs p (List.mem_cons_of_mem _ hp)) (fun p hp => hv p (List.mem_cons_of_mem _ hp)) (by
          have := fold_set off (ev' x).cells.toList 0 z' (by simp; omega)
          rw [Nat.add_zero] at this
          rw [← Array.foldl_toList, Array.toList_zipIdx, this]
          exact hz.set hc) h
      refine ⟨cs', ?_, h2⟩
      simp only [List.map_cons, Instr.fill, hpl]
      rw [if_neg (by simp; omega)]
      exact h1
    · cases h
theorem psound_bld_struct {t : TypeId} {fs : Array Field} {z : List Value} {ps : Array (Nat × Operand)} (ht : P.underlying t = some (.struct fs)) (hz : (P.info? t).bind (·.zero) = some (.agg z.toArray)) (hcl : ∀ β, VRs β z z)
    (szs : List Nat) (hsz : fs.toList.map (fun f => (P.info? f.type).map (·.size)) = szs.map some) (hps : ∀ p ∈ ps.toList, p.1 < fs.size) :
    PSound P (.build t ps) (.bld z (ps.toList.filterMap fun p => ((fs.toList.map (·.offset)).zip szs)[p.1]?.map fun q => (q.1, q.2, p.2))) := fun β ev ev' o v ho hv h => by
  simp only [pop] at h
  cases hb : bldV z ((ps.toList.filterMap fun p => ((fs.toList.map (·.offset)).zip szs)[p.1]?.map fun q => (q.1, q.2, p.2)).map fun (o, s, x) => (o, s, ev x)) with
  | none => rw [hb] at h; cases h
  | some cs =>
    rw [hb] at h
    cases h
    have hlen : szs.length = fs.size := by have := congrArg List.length hsz; simpa using this.symm
    have hplaces : ∀ w : World, (fs.mapM fun f => do pure (f.offset, ← sizeOf f.type) : Sem (Array (Nat × Nat))).run P w = .ok ((fs.toList.map (·.offset)).zip szs).toArray w := by
      intro w
      have key : ∀ (l : List Field) (ss : List Nat), l.map (fun f => (P.info? f.type).map (·.size)) = ss.map some → (l.mapM fun f => do pure (f.offset, ← sizeOf f.type) : Sem (List (Nat × Nat))).run P w = .ok ((l.map (·.offset)).zip ss) w := by
        intro l
        induction l with
        | nil => intro ss hs; cases ss <;> simp_all
        | cons f l ih =>
          intro ss hs
          cases ss with
          | nil => simp at hs
          | cons s ss =>
            simp only [List.map_cons, List.cons.injEq] at hs
            simp only [List.mapM_cons, Sem.run_bind, run_sz hs.1, Result.andThen_ok, Sem.run_pure, ih ss hs.2, List.map_cons, List.zip_cons_cons]
      rw [Array.mapM_eq_mapM_toList]
      simp only [Sem.run_map, key _ _ hsz, Result.andThen_ok]
    obtain ⟨cs', h1, h2⟩ := fill_rel (β := β) (ev := ev) (ev' := ev') (place := fun i => ((fs.toList.map (·.offset)).zip szs).toArray[i]?) ps.toList _ z cs z.toArray rfl
      (fun p hp => by have := hps p hp; simp [this, hlen]) (fun p hp => hv _ (by simp [Op.operands]; exact ⟨p.1, by simpa using hp⟩)) (by simpa using hcl β) (by simpa using hb)
    refine ⟨.agg cs', fun w => ?_, .agg ?_ ?_⟩
    · cases hi : P.info? t with
      | none => simp [hi] at hz
      | some inf =>
        have hz' : inf.zero = some (.agg z.toArray) := by simpa [hi] using hz
        simp only [execOp, ho, Instr.build, Sem.run_bind, zeroValue, typeInfo, Sem.run, hi, Result.andThen_ok, Sem.run_pure, hz', run_underlying ht, hplaces, Array.toList_map, h1, Value.cells, program, Sem.run_pure']
    · have := h2.1; simpa using this
    · have := (VRs.arr (as := cs.toArray) (bs := cs')).1 (by simpa using h2)
      exact this.2

theorem psound_bld_array {t e n sz : TypeId} {z : List Value} {ps : Array (Nat × Operand)} (ht : P.underlying t = some (.array n e)) (hn : (P.info? e).map (·.size) = some sz) (hz : (P.info? t).bind (·.zero) = some (.agg z.toArray)) (hcl : ∀ β, VRs β z z) :
    PSound P (.build t ps) (.bld z (ps.toList.map fun p => (p.1 * sz, sz, p.2))) := fun β ev ev' o v ho hv h => by
  simp only [pop] at h
  cases hb : bldV z ((ps.toList.map fun p => (p.1 * sz, sz, p.2)).map fun (o, s, x) => (o, s, ev x)) with
  | none => rw [hb] at h; cases h
  | some cs =>
    rw [hb] at h
    cases h
    obtain ⟨cs', h1, h2⟩ := fill_rel (β := β) (ev := ev) (ev' := ev') (place := fun i => some (i * sz, sz)) ps.toList (ps.toList.map fun p => (p.1 * sz, sz, p.2)) z cs z.toArray (by simp [List.filterMap_eq_map'])
      (fun p hp => rfl) (fun p hp => hv _ (by simp [Op.operands]; exact ⟨p.1, by simpa using hp⟩)) (by simpa using hcl β) hb
    refine ⟨.agg cs', fun w => ?_, .agg ?_ ?_⟩
    · cases hi : P.info? t with
      | none => simp [hi] at hz
      | some inf =>
        have hz' : inf.zero = some (.agg z.toArray) := by simpa [hi] using hz
        simp only [execOp, ho, Instr.build, Sem.run_bind, zeroValue, typeInfo, Sem.run, hi, Result.andThen_ok, Sem.run_pure, hz', run_underlying ht, run_sz hn, Array.toList_map, h1, Value.cells, program, Sem.run_pure']
    · have := h2.1; simpa using this
    · have := (VRs.arr (as := cs.toArray) (bs := cs')).1 (by simpa using h2)
      exact this.2
/-- New memory: pointer or slice. -/
inductive AK where
  | ptr
  | sl (n c : Nat)
def akV : AK → Nat → Value
  | .ptr, l => .pointer (some ⟨l, 0, none⟩)
  | .sl n c, l => .slice (some ⟨l, 0, none⟩) n c
def AKr (mk : AK) (b sz : Nat) (k : Kd) (size : Nat) (v' : Value) : Prop :=
  match mk with
  | .ptr => v' = .pointer (some ⟨b, 0, none⟩)
  | .sl n c => ∃ c', v' = .slice (some ⟨b, 0, none⟩) n c' ∧ n ≤ c ∧ c ≤ c' ∧ c' ≤ maxLen ∧ c' * sz ≤ size ∧ (k ≠ .gr → c' = c)
inductive AOp where
  | box (e : TypeId) (x : Operand)
  | new (e : TypeId) (z : List Value)
  | bsl (e sz n : Nat) (z : List Value) (ps : List (Nat × Operand))
  | mks (e sz bytes : Nat) (z : List Value) (l c : Operand)
def zeros (z : List Value) (n : Nat) : List Value := (List.range n).map fun i => z.getD (i % z.length) undef
def aop (ev : Operand → Value) : AOp → Option (List Value × TypeId × Kd × AK)
  | .box e x => if isVal (ev x) then some ((ev x).cells.toList, e, .ex, .ptr) else none
  | .new e z => some (z, e, .ex, .ptr)
  | .bsl e sz n z ps => if n * sz ≤ 16777216 ∧ n ≤ 16777216 then (bldV (zeros z (n * sz)) (ps.map fun (i, x) => (i * sz, sz, ev x))).map fun cs => (cs, e, .ex, .sl n n) else none
  | .mks e sz bytes z l c => match ev l, ev c with
    | .int _ n, .int _ m => if 0 ≤ n ∧ n ≤ m ∧ (bytes : Int) * m ≤ 281474976710656 ∧ m ≤ 9223372036854775807 then some (zeros z (m.toNat * sz), e, .ex, .sl n.toNat m.toNat) else none
    | _, _ => none
def ASound (P : Program) (op : Op) (r : AOp) : Prop :=
  ∀ (β : Nat → Ent) (ev ev' : Operand → Value) (o : Oper) (cs : List Value) (e : TypeId) (k : Kd) (mk : AK), o.op = op → (∀ x ∈ op.operands, VR β (ev x) (ev' x)) → aop ev r = some (cs, e, k, mk) →
    k ≠ .ro ∧ ∃ sz, (P.info? e).map (·.size) = some sz ∧ ∀ w : World, ∃ (cs' : Array Value) (fr : Nat × Nat) (w' : World) (v' : Value), (execOp ev' o).run P w = .ok (.value v') w' ∧ w'.heap = w.heap.push (.cells cs' e fr) ∧ w'.os = w.os ∧ w'.tape = w.tape ∧ w'.output = w.output ∧
      cs.length ≤ cs'.size ∧ (k = .ex → cs.length = cs'.size) ∧ (∀ (i : Nat) (v : Value), cs[i]? = some v → ∃ u, cs'[i]? = some u ∧ VR β v u) ∧ (∀ i, i < cs'.size → (decide (fr.1 ≤ i) && decide (i < fr.2)) = false) ∧ AKr mk w.heap.size sz k cs'.size v'
theorem vrs_arr {β : Nat → Ent} {cs : List Value} {cs' : Array Value} (h : VRs β cs cs'.toList) : cs.length = cs'.size ∧ ∀ (i : Nat) (v : Value), cs[i]? = some v → ∃ u, cs'[i]? = some u ∧ VR β v u :=
  ⟨by simpa using h.1, fun i v hv => by obtain ⟨u, a, b⟩ := h.2 i v hv; exact ⟨u, by simpa using a, b⟩⟩
theorem asound_box {e sz : TypeId} {x : Operand} (hz : (P.info? e).map (·.size) = some sz) : ASound P (.box e x) (.box e x) := fun β ev ev' o cs e0 k mk ho hv h => by
  have hx := hv x (by simp [Op.operands])
  simp only [aop] at h
  split at h
  · rename_i hval
    simp only [Option.some.injEq, Prod.mk.injEq] at h
    obtain ⟨rfl, rfl, rfl, rfl⟩ := h
    obtain ⟨h1, h2⟩ := vrs_arr (hx.cells hval)
    refine ⟨(by simp), sz, hz, fun w => ⟨(ev' x).cells, (0, 0), w.alloc (.cells (ev' x).cells e), _, ?_, rfl, rfl, rfl, rfl, by omega, fun _ => h1, h2, fun i _ => by simp, rfl⟩⟩
    simp [execOp, ho, Instr.box, newVar, newRow, newObj, Sem.run]
  · cases h
theorem asound_new {e sz : TypeId} {z : Value} (hz : (P.info? e).map (·.size) = some sz) (hzz : (P.info? e).bind (·.zero) = some z) (hcl : ∀ β, VRs β z.cells.toList z.cells.toList) : ASound P (.alloc e) (.new e z.cells.toList) := fun β ev ev' o cs e0 k mk ho hv h => by
  simp only [aop, Option.some.injEq, Prod.mk.injEq] at h
  obtain ⟨rfl, rfl, rfl, rfl⟩ := h
  obtain ⟨h1, h2⟩ := vrs_arr (hcl β)
  cases hi : P.info? e with
  | none => simp [hi] at hzz
  | some inf =>
    have hz' : inf.zero = some z := by simpa [hi] using hzz
    refine ⟨(by simp), sz, by rw [← hi]; exact hz, fun w => ⟨z.cells, (0, 0), w.alloc (.cells z.cells e), _, ?_, rfl, rfl, rfl, rfl, by omega, fun _ => h1, h2, fun i _ => by simp, rfl⟩⟩
    simp [execOp, ho, Instr.alloc, newVar, newRow, newObj, Sem.run, zeroValue, typeInfo, hi, hz', program]
theorem zeros_rel {β : Nat → Ent} {z : Array Value} (hcl : ∀ β, VRs β z.toList z.toList) (hz : 0 < z.size) (n : Nat) : VRs β (zeros z.toList n) ((Array.range n).map (z[· % z.size]!)).toList := by
  refine ⟨by simp [zeros], fun i v hv => ?_⟩
  unfold zeros at hv
  rw [List.getElem?_map] at hv
  cases hr : (List.range n)[i]? with
  | none => rw [hr] at hv; cases hv
  | some j =>
    rw [hr] at hv
    obtain ⟨hi, rfl⟩ := List.getElem?_eq_some_iff.1 hr
    have hin : i < n := by simpa using hi
    simp only [Option.map_some, Option.some.injEq, List.getElem_range, Array.length_toList] at hv
    have hlt : i % z.size < z.size := Nat.mod_lt _ hz
    obtain ⟨v', h1, h2⟩ := (hcl β).2 (i % z.size) z[i % z.size] (by simp)
    have hv' : v = z[i % z.size] := by rw [← hv]; simp [List.getD, hlt]
    refine ⟨z[i % z.size], by simp [hin, hlt], ?_⟩
    have : v' = z[i % z.size] := by
      rw [Array.getElem?_toList, Array.getElem?_eq_getElem hlt] at h1; exact (Option.some.inj h1).symm
    rw [hv']; rw [this] at h2; exact h2
theorem asound_bsl {t e sz n : TypeId} {z : Value} {ps : Array (Nat × Operand)} (ht : P.underlying t = some (.slice e)) (hz : (P.info? e).map (·.size) = some sz) (hzz : (P.info? e).bind (·.zero) = some z) (hcl : ∀ β, VRs β z.cells.toList z.cells.toList) (h0 : 0 < z.cells.size) :
    ASound P (.buildSlice t n ps) (.bsl e sz n z.cells.toList ps.toList) := fun β ev ev' o cs e0 k mk ho hv h => by
  simp only [aop] at h
  split at h
  · rename_i hlim
    cases hb : bldV (zeros z.cells.toList (n * sz)) (ps.toList.map fun (i, x) => (i * sz, sz, ev x)) with
    | none => rw [hb] at h; cases h
    | some cs0 =>
      rw [hb] at h
      simp only [Option.map_some, Option.some.injEq, Prod.mk.injEq] at h
      obtain ⟨rfl, rfl, rfl, rfl⟩ := h
      have hzr : VRs β (zeros z.cells.toList (n * sz)) ((Array.range (n * sz)).map (z.cells[· % z.cells.size]!)).toList := zeros_rel hcl h0 _
      obtain ⟨cs', h1, h2⟩ := fill_rel (β := β) (ev := ev) (ev' := ev') (place := fun i => some (i * sz, sz)) ps.toList (ps.toList.map fun p => (p.1 * sz, sz, p.2)) _ cs0 _ (by simp) (fun p hp => rfl)
        (fun p hp => hv _ (by simp [Op.operands]; exact ⟨p.1, by simpa using hp⟩)) hzr (by rw [List.map_map]; exact hb)
      obtain ⟨g1, g2⟩ := vrs_arr h2
      have hlen : cs'.size = n * sz := by
        have key : ∀ (pl : List (Nat × Nat × Value)) (z cs : List Value), bldV z pl = some cs → cs.length = z.length := by
          intro pl
          induction pl with
          | nil => intro z cs hh; simp [bldV] at hh; rw [hh]
          | cons p pl ih =>
            intro z cs hh
            obtain ⟨o, s, v⟩ := p
            simp only [bldV] at hh
            split at hh
            · rename_i g
              rw [ih _ _ hh, setCells_len (by simp; omega)]
            · cases hh
        have := key _ _ _ hb
        rw [← g1, this]; simp [zeros]
      cases hi : P.info? e with
      | none => simp [hi] at hzz
      | some inf =>
        have hz' : inf.zero = some z := by simpa [hi] using hzz
        have hsz' : inf.size = sz := by simpa [hi] using hz
        refine ⟨(by simp), sz, by simpa using hsz', fun w => ⟨cs', (0, 0), w.alloc (.cells cs' e), _, ?_, rfl, rfl, rfl, rfl, by omega, fun _ => g1, g2, fun i _ => by simp, n, rfl, Nat.le_refl _, Nat.le_refl _, ?_, by rw [hlen]; exact Nat.le_refl _, fun _ => rfl⟩⟩
        · have hnl : ¬ (16777216 < n * sz) := Nat.not_lt.2 hlim.1
          by_cases hn0 : n * sz = 0
          · have hemp : ((Array.range (n * sz)).map ((#[] : Array Value)[· % (#[] : Array Value).size]!)) = ((Array.range (n * sz)).map (z.cells[· % z.cells.size]!)) := by rw [hn0]; simp
            simp only [execOp, ho, Instr.buildSlice, Sem.run_bind, run_underlying ht, Result.andThen_ok, sizeOf, typeInfo, program, Sem.run, hi, Sem.run_pure, hsz']
            rw [if_neg (by simpa using hnl)]
            simp only [Sem.run_bind, Sem.run_pure, Result.andThen_ok, if_pos hn0, hemp, Array.toList_map]
            rw [h1]
            rfl
          · simp only [execOp, ho, Instr.buildSlice, Sem.run_bind, run_underlying ht, Result.andThen_ok, sizeOf, typeInfo, program, Sem.run, hi, Sem.run_pure, hsz']
            rw [if_neg (by simpa using hnl)]
            simp only [Sem.run_bind, Sem.run_pure, Result.andThen_ok, if_neg hn0, zeroValue, typeInfo, program, Sem.run, hi, hz', Array.toList_map]
            rw [h1]
            rfl
        · unfold maxLen; omega
  · cases h
theorem asound_mks {t e sz bytes : Nat} {z : Value} {l c : Operand} (ht : P.underlying t = some (.slice e)) (hz : (P.info? e).map (fun i => (i.size, i.bytes)) = some (sz, bytes)) (hzz : (P.info? e).bind (·.zero) = some z) (hcl : ∀ β, VRs β z.cells.toList z.cells.toList) (h0 : 0 < z.cells.size) :
    ASound P (.makeSlice t l c) (.mks e sz bytes z.cells.toList l c) := fun β ev ev' o cs e0 k mk ho hv h => by
  have hl := hv l (by simp [Op.operands])
  have hc := hv c (by simp [Op.operands])
  simp only [aop] at h
  split at h
  · rename_i kn n km m hn hm
    split at h
    · rename_i hb
      obtain ⟨b0, b1, b2, b3⟩ := hb
      rw [hn] at hl; rw [hm] at hc
      simp only [Option.some.injEq, Prod.mk.injEq] at h
      obtain ⟨rfl, rfl, rfl, rfl⟩ := h
      cases hi : P.info? e with
      | none => simp [hi] at hzz
      | some inf =>
        have hz' : inf.zero = some z := by simpa [hi] using hzz
        obtain ⟨hs, hby⟩ : inf.size = sz ∧ inf.bytes = bytes := by simpa [hi] using hz
        have hzr : VRs β (zeros z.cells.toList (m.toNat * sz)) ((Array.range (m.toNat * sz)).map (z.cells[· % z.cells.size]!)).toList := zeros_rel hcl h0 _
        obtain ⟨g1, g2⟩ := vrs_arr hzr
        have hsz : ((Array.range (m.toNat * sz)).map (z.cells[· % z.cells.size]!)).size = m.toNat * sz := by simp
        refine ⟨(by simp), sz, by simpa using hs, fun w => ⟨(Array.range (m.toNat * sz)).map (z.cells[· % z.cells.size]!), (0, 0), w.alloc (.cells ((Array.range (m.toNat * sz)).map (z.cells[· % z.cells.size]!)) e), _, ?_, rfl, rfl, rfl, rfl, by omega, fun _ => g1, g2, fun i _ => by simp, m.toNat, rfl, by omega, Nat.le_refl _, by unfold maxLen; omega, by rw [hsz]; exact Nat.le_refl _, fun _ => rfl⟩⟩
        have hr := run_make (P := P) w t e inf z ht hi hz' kn km n m b0 b1 (by rw [hby]; exact b2) b3
        rw [hs] at hr
        simp only [execOp, ho, hl.int_inv, hc.int_inv, Sem.run_bind, hr, Result.andThen_ok, Sem.run_pure]
        rfl
    · cases h
  · cases h
end Can
end Go.Proofs.Ytmpojphjongdcaa
