/- The table in which the chapter's example is answered at once: it is evaluated. -/
import Derived.Test.YtopmheekeooodaaCanPu
import Derived.Test.YtopmheekeooodaaChecked
namespace Go.Proofs.Ytopmheekeooodaa
namespace Can
open Go Go.RowKit
set_option linter.unusedSimpArgs false
set_option linter.unusedVariables false
set_option maxRecDepth 4000
def LG : List FuncId := [4]
noncomputable def GG (f : FuncId) (args : List Value) : Option Value := match args with
  | [] => if f = 4 then some (.bool true) else none
  | _ => none
theorem known_run : runC Try.prog 30 4 [] = some (.bool true) := by kernel_rfl
theorem GG_ok : ∀ f args v, GG f args = some v → PureOk Try.prog f args v := by
  intro f args v h
  unfold GG at h
  split at h
  · split at h
    · rename_i e; subst e; cases h; exact pure_of (fun B => tbl_ok) (by kernel_rfl) rfl rfl (wpF_runC known_run)
    · cases h
  · cases h
theorem tg_ok {B : Nat} : TblOk Try.prog B (tblG Try.prog LG GG) := tblG_ok GG_ok
theorem knownG_iff {H : CH} {Q : Value → CH → Prop} : WpF (tblG Try.prog LG GG) 4 [] H Q ↔ Q (.bool true) H := wpF_G (by rfl) (by rfl)
end Can
end Go.Proofs.Ytopmheekeooodaa
