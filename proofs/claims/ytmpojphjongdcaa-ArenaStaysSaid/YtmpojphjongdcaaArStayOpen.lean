/- Arena: a step as an argument. -/
import Derived.Test.YtmpojphjongdcaaCanBk
import Derived.Test.YtmpojphjongdcaaArStayF
namespace Go.Proofs.Ytmpojphjongdcaa
namespace Can
open Go Go.RowKit
set_option linter.unusedSimpArgs false
set_option linter.unusedVariables false
variable {H : Type} {enc : TypeId × Value → H} {w : World} {base : Nat} {spare : Nat → Bool} {held : Bool}
theorem co_step : CO Rows.uptoBulk enc Try.prog w base spare held 49 5 CStp (fun _ => True) (fun _ => 1) := by
  refine (co_struct bulk_ok Try.underlying49 (by kernel_rfl) (co_cons rfl (by kernel_rfl) (co_bool bulk_ok Try.underlying4) (co_cons rfl (by kernel_rfl) (co_int bulk_ok Try.underlying3) (co_cons rfl (by kernel_rfl) (co_int bulk_ok Try.underlying3) (co_cons rfl (by kernel_rfl) (co_int bulk_ok Try.underlying3) (co_cons rfl (by kernel_rfl) (co_int bulk_ok Try.underlying33) co_nil)))))).map
    (fun x => (⟨x.1, x.2.1, x.2.2.1, x.2.2.2.1, x.2.2.2.2.1⟩ : Stp)) ?_ (fun _ _ => trivial) ?_
  · rintro K cs x ⟨a0, ⟨a1, b1⟩, ⟨a2, b2⟩, ⟨a3, b3⟩, ⟨a4, b4⟩, a8⟩
    refine ⟨?_, bounds_i64 b1, bounds_i64 b2, bounds_i64 b3, u64_wf b4⟩
    rw [split1 a0, split1 a1, split1 a2, split1 a3, split1 a4]
    have a8' : (List.drop 1 (List.drop 1 (List.drop 1 (List.drop 1 (List.drop 1 cs))))) = [] := a8
    rw [a8']
  · intro x; omega
end Can
end Go.Proofs.Ytmpojphjongdcaa
