/- Lex: the table of calls that are answered at once: the chapter's example, and the library's search for a byte. -/
import Derived.Test.YtmglmoehlegojaaCanPu
import Derived.Test.YtmglmoehlegojaaChecked
import Derived.Laws.Externs
namespace Go.Proofs.Ytmglmoehlegojaa
namespace Can
open Go Go.RowKit
set_option linter.unusedSimpArgs false
set_option linter.unusedVariables false
set_option maxRecDepth 4000
noncomputable def GX (f : FuncId) (args : List Value) : Option Value := match args with
  | [.string s, .int .u8 c] => if f = 52 then some (.int .i64 (firstIdx s c.toNat.toUInt8)) else none
  | _ => none
theorem ext_ixb (s : ByteArray) (c : Int) : ExtOk Try.prog 52 [.string s, .int .u8 c] (.int .i64 (firstIdx s c.toNat.toUInt8)) := by
  refine ⟨rfl, rfl, fun w => ?_⟩
  rw [run_callFunc_extern (e := Extern.BytealgIndexByte.indexByte) Try.func52 (by kernel_rfl) (by kernel_rfl) (by kernel_rfl) (by kernel_rfl)]
  have := run_indexByte_string (P := Try.prog) s c w
  rw [show ([Value.string s, .int .u8 c] : List Value).toArray = #[.string s, .int .u8 c] from rfl, this]
  rfl
theorem GX_ok : ∀ f args v, GX f args = some v → PureOk Try.prog f args v := by
  intro f args v h
  unfold GX at h
  split at h
  · split at h
    · rename_i e; subst e; cases h; exact .inr (ext_ixb _ _)
    · cases h
  · cases h
theorem known_run : runG Try.prog [52] GX 400 11 [] = some (.bool true) := by kernel_rfl
def LG : List FuncId := [11, 52]
noncomputable def GG (f : FuncId) (args : List Value) : Option Value := match args with
  | [] => if f = 11 then some (.bool true) else none
  | l => GX f l
theorem GG_ok : ∀ f args v, GG f args = some v → PureOk Try.prog f args v := by
  intro f args v h
  unfold GG at h
  split at h
  · split at h
    · rename_i e; subst e; cases h; exact pure_of (fun B => tblG_ok GX_ok) (by kernel_rfl) rfl rfl (wpF_runG known_run)
    · cases h
  · exact GX_ok _ _ _ h
theorem tg_ok {B : Nat} : TblOk Try.prog B (tblG Try.prog LG GG) := tblG_ok GG_ok
theorem knownG_iff {H : CH} {Q : Value → CH → Prop} : WpF (tblG Try.prog LG GG) 11 [] H Q ↔ Q (.bool true) H := wpF_G (by rfl) (by rfl)
theorem ixb_iff {s : ByteArray} {c : Int} {H : CH} {Q : Value → CH → Prop} : WpF (tblG Try.prog LG GG) 52 [.string s, .int .u8 c] H Q ↔ Q (.int .i64 (firstIdx s c.toNat.toUInt8)) H := wpF_G (by rfl) (by rfl)
end Can
end Go.Proofs.Ytmglmoehlegojaa
