/-
  No cell of these rows narrows 'for every input' (looked for: loops, veiled, ifaces, maps, wideKeys, modest, calm, conditions, laid).
  DERIVED. THE GIVEN ROWS OF THIS SEAT. 3 by the template 'for every input the law returns true; each argument reads behind the call as it read before'; 0 by the template 'total and deterministic' (their statements: YtdfgkcoenagaaaaGreatTotals.lean).
  GIVEN WITH THE SEED: the statements are not yours to turn. If you find one false, say at which input.
  Laid BY PROGRAM, IN A SANDBOX (cutbox-rows.mjs): the forced cells as the released guide's own fill.sh prints them over the translation 164426ec5fc87611… (all of the seat's roots in one cut). By AI agents, Wed Nov 11 2026. No macro, syntax, notation, axiom, sorry.
-/
import Derived.Test.YtdfgkcoenagaaaaGreatChecked
import GoSem.Claim
import GoSem.ClaimJoined
import GoSem.ClaimMapViews
import Derived.JoinedTies
import Derived.KernelRfl
namespace Go.Proofs.YtdfgkcoenagaaaaGreat
/- THE CELL 'sum', in the pinned program and in every row, IS THE sha256 OF THE DUMP (.gsa) THAT YtdfgkcoenagaaaaGreatProg.lean LOADS. Nothing in Lean hashes anything: it is a label: what it is worth is what the hold of that sum in a sandbox is worth. -/
noncomputable def Tryz.pinned : Pinned := { name := "ytdfgkcoenagaaaagreat", sum := "164426ec5fc87611a0c4595080db1306b9000d260d60bacfb31ba9a53c4793d0", checked := Tryz.checked }
namespace Rows
def none {H : Type} : Left H := { results := [], args := [] }

/-- 'screelaw06.ShowBack': WHATEVER THE INPUT: true; the input reads as it did. -/
def showBackSpec : ChangeSpec := { name := "showBack", fn := fun _ => fun
  | [d] => { results := [.lit (.bool true)], args := [d] }
  | _ => none }
def showBackRow : OpenClaim := { program := "ytdfgkcoenagaaaagreat", sum := "164426ec5fc87611a0c4595080db1306b9000d260d60bacfb31ba9a53c4793d0", func := "scree/screelaw06.ShowBack", spec := "showBack", inPlace := ["internal/bytealg.IndexByteString", "internal/bytealg.IndexString", "internal/abi.NoEscape"], unfollowed := true, recurses := true, named := ["internal/bytealg.MaxLen"], apart := false }
def ShowBackSaid : Prop := showBackRow.holds Tryz.pinned (OpenSpec.ofChange showBackSpec)

/-- ITS FALSE NEIGHBOUR: 'it returns false'. Refute it at one input. -/
def showBackWrong : ChangeSpec := { name := "showBack", fn := fun _ => fun
  | [d] => { results := [.lit (.bool false)], args := [d] }
  | _ => none }
def ShowBackWrongFalsely : Prop := showBackRow.holds Tryz.pinned (OpenSpec.ofChange showBackWrong)

/-- 'screelaw06.ShowAlike': WHATEVER THE INPUT: true; the input reads as it did. -/
def showAlikeSpec : ChangeSpec := { name := "showAlike", fn := fun _ => fun
  | [d1, d2] => { results := [.lit (.bool true)], args := [d1, d2] }
  | _ => none }
def showAlikeRow : OpenClaim := { program := "ytdfgkcoenagaaaagreat", sum := "164426ec5fc87611a0c4595080db1306b9000d260d60bacfb31ba9a53c4793d0", func := "scree/screelaw06.ShowAlike", spec := "showAlike", inPlace := ["internal/bytealg.IndexByteString", "internal/bytealg.IndexString", "internal/abi.NoEscape"], unfollowed := true, recurses := true, named := ["internal/bytealg.MaxLen"], apart := false }
def ShowAlikeSaid : Prop := showAlikeRow.holds Tryz.pinned (OpenSpec.ofChange showAlikeSpec)

/-- ITS FALSE NEIGHBOUR: 'it returns false'. Refute it at one input. -/
def showAlikeWrong : ChangeSpec := { name := "showAlike", fn := fun _ => fun
  | [d1, d2] => { results := [.lit (.bool false)], args := [d1, d2] }
  | _ => none }
def ShowAlikeWrongFalsely : Prop := showAlikeRow.holds Tryz.pinned (OpenSpec.ofChange showAlikeWrong)

/-- 'screetop.AllSyntax': WHATEVER THE INPUT: true; the input reads as it did. -/
def allSyntaxSpec : ChangeSpec := { name := "allSyntax", fn := fun _ => fun
  | [d] => { results := [.lit (.bool true)], args := [d] }
  | _ => none }
def allSyntaxRow : OpenClaim := { program := "ytdfgkcoenagaaaagreat", sum := "164426ec5fc87611a0c4595080db1306b9000d260d60bacfb31ba9a53c4793d0", func := "scree/screetop.AllSyntax", spec := "allSyntax", inPlace := ["internal/bytealg.IndexByteString", "internal/bytealg.IndexString", "internal/abi.NoEscape"], unfollowed := true, recurses := true, named := ["internal/bytealg.MaxLen"], apart := false }
def AllSyntaxSaid : Prop := allSyntaxRow.holds Tryz.pinned (OpenSpec.ofChange allSyntaxSpec)

/-- ITS FALSE NEIGHBOUR: 'it returns false'. Refute it at one input. -/
def allSyntaxWrong : ChangeSpec := { name := "allSyntax", fn := fun _ => fun
  | [d] => { results := [.lit (.bool false)], args := [d] }
  | _ => none }
def AllSyntaxWrongFalsely : Prop := allSyntaxRow.holds Tryz.pinned (OpenSpec.ofChange allSyntaxWrong)

/- THE SECOND FORM. 'bulk': how many values and letters a reading holds, each counted each time it is reached (what is shared counts as often as it is met; a slice's spare places count too). A statement '..UptoSaid' is the law's where the arguments, and the package variables that the reading takes, are together of bulk at most 1048576: NARROWER than '..Said'. Prove '..Said' where nothing that the law and all that it calls make is longer than what came in: it says more and counts as full. Else prove '..UptoSaid'. A law counts once. -/
mutual
def uptoBulk {H : Type} : DataW H → Nat
  | .lit (.string bytes) => bytes.length + 1
  | .lit _ => 1
  | .nil => 1
  | .ptr d => uptoBulk d + 1
  | .slice elems spare => uptoBulkAll elems + uptoBulkAll spare + 1
  | .agg parts => uptoBulkAll parts + 1
  | .iface _ d => uptoBulk d + 1
  | .map entries => uptoBulkEntries entries + 1
  | .held _ => 1
def uptoBulkAll {H : Type} : List (DataW H) → Nat
  | [] => 0
  | d :: r => uptoBulk d + uptoBulkAll r
def uptoBulkEntries {H : Type} : List (Lit × DataW H) → Nat
  | [] => 0
  | x :: r => uptoBulkEntry x + uptoBulkEntries r
def uptoBulkEntry {H : Type} : Lit × DataW H → Nat
  | (.string bytes, d) => bytes.length + uptoBulk d + 1
  | (_, d) => uptoBulk d + 1
 end
def uptoSmall : (H : Type) → List (DataW H) → Bool := fun _ ds => decide (uptoBulkAll ds ≤ 1048576)
def OpenSpec.upto (s : _root_.Go.ChangeSpec) : _root_.Go.OpenSpec := { _root_.Go.OpenSpec.ofChange s with cond := some uptoSmall }

/-- 'screelaw06.ShowBack', WHERE WHAT IT READS IS OF BULK AT MOST 1048576: true; the input reads as it did. -/
def showBackUptoRow : OpenClaim := { program := "ytdfgkcoenagaaaagreat", sum := "164426ec5fc87611a0c4595080db1306b9000d260d60bacfb31ba9a53c4793d0", func := "scree/screelaw06.ShowBack", spec := "showBack", inPlace := ["internal/bytealg.IndexByteString", "internal/bytealg.IndexString", "internal/abi.NoEscape"], unfollowed := true, recurses := true, named := ["internal/bytealg.MaxLen"], apart := false, narrowed := true }
def ShowBackUptoSaid : Prop := showBackUptoRow.holds Tryz.pinned (OpenSpec.upto showBackSpec)

/-- 'screelaw06.ShowAlike', WHERE WHAT IT READS IS OF BULK AT MOST 1048576: true; the input reads as it did. -/
def showAlikeUptoRow : OpenClaim := { program := "ytdfgkcoenagaaaagreat", sum := "164426ec5fc87611a0c4595080db1306b9000d260d60bacfb31ba9a53c4793d0", func := "scree/screelaw06.ShowAlike", spec := "showAlike", inPlace := ["internal/bytealg.IndexByteString", "internal/bytealg.IndexString", "internal/abi.NoEscape"], unfollowed := true, recurses := true, named := ["internal/bytealg.MaxLen"], apart := false, narrowed := true }
def ShowAlikeUptoSaid : Prop := showAlikeUptoRow.holds Tryz.pinned (OpenSpec.upto showAlikeSpec)

/-- 'screetop.AllSyntax', WHERE WHAT IT READS IS OF BULK AT MOST 1048576: true; the input reads as it did. -/
def allSyntaxUptoRow : OpenClaim := { program := "ytdfgkcoenagaaaagreat", sum := "164426ec5fc87611a0c4595080db1306b9000d260d60bacfb31ba9a53c4793d0", func := "scree/screetop.AllSyntax", spec := "allSyntax", inPlace := ["internal/bytealg.IndexByteString", "internal/bytealg.IndexString", "internal/abi.NoEscape"], unfollowed := true, recurses := true, named := ["internal/bytealg.MaxLen"], apart := false, narrowed := true }
def AllSyntaxUptoSaid : Prop := allSyntaxUptoRow.holds Tryz.pinned (OpenSpec.upto allSyntaxSpec)

end Rows
end Go.Proofs.YtdfgkcoenagaaaaGreat
