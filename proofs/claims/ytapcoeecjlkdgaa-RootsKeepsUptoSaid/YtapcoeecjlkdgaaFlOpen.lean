/- Flow: a function as an argument. -/
import Derived.Test.YtapcoeecjlkdgaaCanRun
import Derived.Test.YtapcoeecjlkdgaaFlData
namespace Go.Proofs.Ytapcoeecjlkdgaa
namespace Can
open Go Go.RowKit
set_option linter.unusedSimpArgs false
set_option linter.unusedVariables false
variable {H : Type} {enc : TypeId × Value → H} {w : World} {base : Nat} {spare : Nat → Bool} {held : Bool}
structure InsOk0 (i : Ins) : Prop where
  op : i64r i.op
  d : i64r i.d
  a : i64r i.a
  b : i64r i.b
  t : i64r i.t
  k : i64r i.k
  l : ∀ x ∈ i.l, i64r x
def CIns0 : CRep Ins := fun H cs i => ∃ q c, cs = insC i q c ∧ SlAt 1 (CInt .i64) H q c i.l ∧ InsOk0 i
theorem sl_wf {H : CH} {q : Option Addr} {c : Nat} {xs : List Int} (h : SlAt 1 (CInt .i64) H q c xs) : ∀ x ∈ xs, i64r x := by
  rcases h with ⟨rfl, _⟩ | ⟨l, o, os, e, kd, h0, h1, h2, h3, h4, h5, h6⟩
  · intro x hx; cases hx
  · intro x hx
    obtain ⟨i, hi, rfl⟩ := List.getElem_of_mem hx
    exact i64_wf (h6 i hi).2
theorem sum_ones {α : Type} (xs : List α) : (xs.map fun _ => 1).sum = xs.length := by
  induction xs with
  | nil => rfl
  | cons x xs ih => simp only [List.map_cons, List.sum_cons, ih, List.length_cons]; omega
theorem sum_succ {α : Type} (f : α → Nat) (xs : List α) : (xs.map fun x => f x + 1).sum = (xs.map f).sum + xs.length := by
  induction xs with
  | nil => rfl
  | cons x xs ih => simp only [List.map_cons, List.sum_cons, ih, List.length_cons]; omega
theorem co_ins : CO Rows.uptoBulk enc Try.prog w base spare held 43 7 CIns0 (fun i => i.l.length * 8 ≤ reachBytes) (fun i => i.l.length + 1) := by
  refine (co_struct bulk_ok Try.underlying43 (by kernel_rfl) (co_cons rfl (by kernel_rfl) (co_int bulk_ok Try.underlying3) (co_cons rfl (by kernel_rfl) (co_int bulk_ok Try.underlying3) (co_cons rfl (by kernel_rfl) (co_int bulk_ok Try.underlying3) (co_cons rfl (by kernel_rfl) (co_int bulk_ok Try.underlying3)
    (co_cons rfl (by kernel_rfl) (co_int bulk_ok Try.underlying3) (co_cons rfl (by kernel_rfl) (co_int bulk_ok Try.underlying3) (co_cons rfl (by kernel_rfl) (co_slice bulk_ok Try.underlying39 (by kernel_rfl) (by decide) (co_int bulk_ok Try.underlying3)) co_nil)))))))).map
    (fun x => (⟨x.1, x.2.1, x.2.2.1, x.2.2.2.1, x.2.2.2.2.1, x.2.2.2.2.2.1, x.2.2.2.2.2.2.1⟩ : Ins)) ?_ ?_ ?_
  · rintro K cs x ⟨⟨a1, b1⟩, ⟨a2, b2⟩, ⟨a3, b3⟩, ⟨a4, b4⟩, ⟨a5, b5⟩, ⟨a6, b6⟩, ⟨q, c, a7, b7⟩, a8⟩
    refine ⟨q, c, ?_, b7, ⟨i64_wf b1, i64_wf b2, i64_wf b3, i64_wf b4, i64_wf b5, i64_wf b6, sl_wf b7⟩⟩
    rw [split1 a1, split1 a2, split1 a3, split1 a4, split1 a5, split1 a6, split1 a7]
    have a8' : (List.drop 1 (List.drop 1 (List.drop 1 (List.drop 1 (List.drop 1 (List.drop 1 (List.drop 1 cs))))))) = [] := a8
    rw [a8']
    rfl
  · rintro x ⟨_, _, _, _, _, _, ⟨h, _⟩, _⟩
    have e : Try.prog.bytesOf 3 = 8 := by kernel_rfl
    rw [e] at h
    exact h
  · intro x
    simp only [sum_ones]
    omega
theorem co_rgn : CO Rows.uptoBulk enc Try.prog w base spare held 61 4 CRgn (fun _ => True) (fun _ => 1) := by
  refine (co_struct bulk_ok Try.underlying61 (by kernel_rfl) (co_cons rfl (by kernel_rfl) (co_int bulk_ok Try.underlying3) (co_cons rfl (by kernel_rfl) (co_int bulk_ok Try.underlying3) (co_cons rfl (by kernel_rfl) (co_int bulk_ok Try.underlying3) (co_cons rfl (by kernel_rfl) (co_int bulk_ok Try.underlying3) co_nil))))).map
    (fun x => (⟨x.1, x.2.1, x.2.2.1, x.2.2.2.1⟩ : Rgn)) ?_ (fun _ _ => trivial) ?_
  · rintro K cs x ⟨⟨a1, b1⟩, ⟨a2, b2⟩, ⟨a3, b3⟩, ⟨a4, b4⟩, a8⟩
    refine ⟨?_, i64_wf b1, i64_wf b2, i64_wf b3, i64_wf b4⟩
    rw [split1 a1, split1 a2, split1 a3, split1 a4]
    have a8' : (List.drop 1 (List.drop 1 (List.drop 1 (List.drop 1 cs)))) = [] := a8
    rw [a8']
    rfl
  · intro x; omega
def CConst0 : CRep (Int × ByteArray) := fun H cs k => cs = [.int .i64 k.1, .string k.2] ∧ i64r k.1
theorem co_const : CO Rows.uptoBulk enc Try.prog w base spare held 57 2 CConst0 (fun k => k.2.size ≤ reachBytes) (fun _ => 1) := by
  refine (co_struct bulk_ok Try.underlying57 (by kernel_rfl) (co_cons rfl (by kernel_rfl) (co_int bulk_ok Try.underlying3) (co_cons rfl (by kernel_rfl) (co_string bulk_ok Try.underlying9) co_nil))).map
    (fun x => (x.1, x.2.1)) ?_ (fun x h => h.2.1) ?_
  · rintro K cs x ⟨⟨a1, b1⟩, ⟨a2, b2⟩, a8⟩
    refine ⟨?_, i64_wf b1⟩
    rw [split1 a1, split1 a2]
    have a8' : (List.drop 1 (List.drop 1 cs)) = [] := a8
    rw [a8']
  · intro x; omega
/-- What is known of a function's sizes. -/
structure FnZ (F : Fn') : Prop where
  lnames : F.names.length * 16 ≤ reachBytes
  lconsts : F.consts.length * 24 ≤ reachBytes
  lins : F.ins.length * 72 ≤ reachBytes
  lrgs : F.rgs.length * 32 ≤ reachBytes
  names : ∀ x ∈ F.names, x.size ≤ reachBytes
  consts : ∀ x ∈ F.consts, x.2.size ≤ reachBytes
  ins : ∀ x ∈ F.ins, x.l.length * 8 ≤ reachBytes
structure FnOk0 (H : CH) (F : Fn') (A : FnA) : Prop where
  params : i64r F.params
  regs : i64r F.regs
  frees : i64r F.frees
  bound : i64r F.bound
  names : SlAt 1 CString H A.qn A.cn F.names
  consts : SlAt 2 CConst0 H A.qc A.cc F.consts
  ins : SlAt 7 CIns0 H A.qi A.ci F.ins
  rgs : SlAt 4 CRgn H A.qr A.cr F.rgs
def CFn : CRep Fn' := fun H cs F => ∃ A, cs = fnC F A ∧ FnOk0 H F A
def muFn (F : Fn') : Nat := F.ins.length + (F.ins.map fun i => i.l.length).sum + F.rgs.length + F.names.length + F.consts.length
theorem FnOk0.ok {H : CH} {F : Fn'} {A : FnA} (h : FnOk0 H F A) (z : FnZ F) : FnOk H F A where
  params := h.params
  regs := h.regs
  frees := h.frees
  bound := h.bound
  names := h.names
  consts := h.consts.imp fun cs x hx hr => ⟨hr.1, hr.2, z.consts x hx⟩
  ins := h.ins.imp fun cs x hx ⟨q, c, h1, h2, h3⟩ => ⟨q, c, h1, h2, ⟨h3.op, h3.d, h3.a, h3.b, h3.t, h3.k, h3.l, z.ins x hx⟩⟩
  rgs := h.rgs
  lnames := z.lnames
  lconsts := z.lconsts
  lins := z.lins
  lrgs := z.lrgs
theorem co_fn : CO Rows.uptoBulk enc Try.prog w base spare held 27 10 CFn FnZ muFn := by
  refine (co_struct bulk_ok Try.underlying27 (by kernel_rfl) (co_cons rfl (by kernel_rfl) (co_string bulk_ok Try.underlying9) (co_cons rfl (by kernel_rfl) (co_int bulk_ok Try.underlying3) (co_cons rfl (by kernel_rfl) (co_int bulk_ok Try.underlying3) (co_cons rfl (by kernel_rfl) (co_int bulk_ok Try.underlying3)
    (co_cons rfl (by kernel_rfl) (co_bool bulk_ok Try.underlying4) (co_cons rfl (by kernel_rfl) (co_int bulk_ok Try.underlying3) (co_cons rfl (by kernel_rfl) (co_slice bulk_ok Try.underlying22 (by kernel_rfl) (by decide) (co_string bulk_ok Try.underlying9))
    (co_cons rfl (by kernel_rfl) (co_slice bulk_ok Try.underlying23 (by kernel_rfl) (by decide) co_const) (co_cons rfl (by kernel_rfl) (co_slice bulk_ok Try.underlying24 (by kernel_rfl) (by decide) co_ins) (co_cons rfl (by kernel_rfl) (co_slice bulk_ok Try.underlying25 (by kernel_rfl) (by decide) co_rgn) co_nil))))))))))).map
    (fun x => (⟨x.1, x.2.1, x.2.2.1, x.2.2.2.1, x.2.2.2.2.1, x.2.2.2.2.2.1, x.2.2.2.2.2.2.1, x.2.2.2.2.2.2.2.1, x.2.2.2.2.2.2.2.2.1, x.2.2.2.2.2.2.2.2.2.1⟩ : Fn')) ?_ ?_ ?_
  · rintro K cs x ⟨⟨a1, b1⟩, ⟨a2, b2⟩, ⟨a3, b3⟩, ⟨a4, b4⟩, a5, ⟨a6, b6⟩, ⟨qn, cn, a7, b7⟩, ⟨qc, cc, a8, b8⟩, ⟨qi, ci, a9, b9⟩, ⟨qr, cr, a10, b10⟩, a11⟩
    refine ⟨⟨qn, cn, qc, cc, qi, ci, qr, cr⟩, ?_, i64_wf b2, i64_wf b3, i64_wf b4, i64_wf b6, b7, b8, b9, b10⟩
    rw [split1 a1, split1 a2, split1 a3, split1 a4, split1 a5, split1 a6, split1 a7, split1 a8, split1 a9, split1 a10]
    have a8' : (List.drop 1 (List.drop 1 (List.drop 1 (List.drop 1 (List.drop 1 (List.drop 1 (List.drop 1 (List.drop 1 (List.drop 1 (List.drop 1 cs)))))))))) = [] := a11
    rw [a8']
    rfl
  · rintro x ⟨_, _, _, _, _, _, ⟨n1, n2⟩, ⟨c1, c2⟩, ⟨i1, i2⟩, ⟨r1, r2⟩, _⟩
    have e1 : Try.prog.bytesOf 9 = 16 := by kernel_rfl
    have e2 : Try.prog.bytesOf 57 = 24 := by kernel_rfl
    have e3 : Try.prog.bytesOf 43 = 72 := by kernel_rfl
    have e4 : Try.prog.bytesOf 61 = 32 := by kernel_rfl
    rw [e1] at n1; rw [e2] at c1; rw [e3] at i1; rw [e4] at r1
    exact ⟨n1, c1, i1, r1, n2, c2, i2⟩
  · intro x
    simp only [muFn, sum_ones, sum_succ]
    omega
end Can
end Go.Proofs.Ytapcoeecjlkdgaa
