/- Frame: a step as an argument. -/
import Derived.Test.YtopnmlonapimjaaCanRun
import Derived.Test.YtopnmlonapimjaaFwLaw
namespace Go.Proofs.Ytopnmlonapimjaa
namespace Can
open Go Go.RowKit
set_option linter.unusedSimpArgs false
set_option linter.unusedVariables false
variable {H : Type} {enc : TypeId × Value → H} {w : World} {base : Nat} {spare : Nat → Bool} {held : Bool}
theorem co_fstep : CO Rows.uptoBulk enc Try.prog w base spare held 32 5 CFStp (fun s => s.lv.length * 8 ≤ reachBytes) (fun _ => 1) := by
  refine (co_struct bulk_ok Try.underlying32 (by kernel_rfl) (co_cons rfl (by kernel_rfl) (co_int bulk_ok Try.underlying3) (co_cons rfl (by kernel_rfl) (co_int bulk_ok Try.underlying3) (co_cons rfl (by kernel_rfl) (co_int bulk_ok Try.underlying3) (co_cons rfl (by kernel_rfl) (co_int bulk_ok Try.underlying29)
    (co_cons rfl (by kernel_rfl) (co_slice bulk_ok Try.underlying22 (by kernel_rfl) (by decide) (co_int bulk_ok Try.underlying29)) co_nil)))))).map
    (fun x => (⟨x.1, x.2.1, x.2.2.1, x.2.2.2.1, x.2.2.2.2.1⟩ : FStp)) ?_ ?_ ?_
  · rintro K cs x ⟨⟨a0, b0⟩, ⟨a1, b1⟩, ⟨a2, b2⟩, ⟨a3, b3⟩, ⟨q, c, a4, b4⟩, a8⟩
    refine ⟨q, c, ?_, b4, ⟨bounds_i64 b0, bounds_i64 b1, bounds_i64 b2, u64_wf b3⟩⟩
    rw [split1 a0, split1 a1, split1 a2, split1 a3, split1 a4]
    have a8' : (List.drop 1 (List.drop 1 (List.drop 1 (List.drop 1 (List.drop 1 cs))))) = [] := a8
    rw [a8']
  · rintro x ⟨_, _, _, _, ⟨h, _⟩, _⟩
    have e : Try.prog.bytesOf 29 = 8 := by kernel_rfl
    rw [e] at h
    exact h
  · intro x; omega
end Can
end Go.Proofs.Ytopnmlonapimjaa
