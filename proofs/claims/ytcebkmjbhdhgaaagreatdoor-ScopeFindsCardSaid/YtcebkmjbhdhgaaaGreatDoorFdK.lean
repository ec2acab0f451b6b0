/- The table in which the chapter's example is answered at once: it is evaluated. -/
import Derived.Test.YtcebkmjbhdhgaaaGreatDoorCanPu
import Derived.Test.YtcebkmjbhdhgaaaGreatDoorChecked
namespace Go.Proofs.YtcebkmjbhdhgaaaGreatDoor
namespace Can
open Go Go.RowKit
set_option linter.unusedSimpArgs false
set_option linter.unusedVariables false
set_option maxRecDepth 4000
def LG : List FuncId := [6]
noncomputable def GG (f : FuncId) (args : List Value) : Option Value := match args with
  | [] => if f = 6 then some (.bool true) else none
  | _ => none
theorem known_run : runC Tryz.prog 400 6 [] = some (.bool true) := by kernel_rfl
theorem GG_ok : ∀ f args v, GG f args = some v → PureOk Tryz.prog f args v := by
  intro f args v h
  unfold GG at h
  split at h
  · split at h
    · rename_i e; subst e; cases h; exact pure_of (fun B => tbl_ok) (by kernel_rfl) rfl rfl (wpF_runC known_run)
    · cases h
  · cases h
theorem tg_ok {B : Nat} : TblOk Tryz.prog B (tblG Tryz.prog LG GG) := tblG_ok GG_ok
theorem knownG_iff {H : CH} {Q : Value → CH → Prop} : WpF (tblG Tryz.prog LG GG) 6 [] H Q ↔ Q (.bool true) H := wpF_G (by rfl) (by rfl)
end Can
end Go.Proofs.YtcebkmjbhdhgaaaGreatDoor
