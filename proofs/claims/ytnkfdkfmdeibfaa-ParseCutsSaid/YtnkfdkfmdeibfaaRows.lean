/-
  No cell of these rows narrows 'for every input' (looked for: loops, veiled, ifaces, maps, wideKeys, modest, calm, conditions, laid).
  DERIVED. THE GIVEN ROWS OF THIS SEAT. 4 by the template 'for every input the law returns true; each argument reads behind the call as it read before'; 0 by the template 'total and deterministic' (their statements: YtnkfdkfmdeibfaaTotals.lean).
  GIVEN WITH THE SEED: the statements are not yours to turn. If you find one false, say at which input.
  Laid BY PROGRAM, IN A SANDBOX (cutbox-rows.mjs): the forced cells as the released guide's own fill.sh prints them over the translation 4b8a01fbf31a0d95… (all of the seat's roots in one cut). By AI agents, Wed Nov 11 2026. No macro, syntax, notation, axiom, sorry.
-/
import Derived.Test.YtnkfdkfmdeibfaaChecked
import GoSem.Claim
import GoSem.ClaimJoined
import GoSem.ClaimMapViews
import Derived.JoinedTies
import Derived.KernelRfl
namespace Go.Proofs.Ytnkfdkfmdeibfaa
/- THE CELL 'sum', in the pinned program and in every row, IS THE sha256 OF THE DUMP (.gsa) THAT YtnkfdkfmdeibfaaProg.lean LOADS. Nothing in Lean hashes anything: it is a label: what it is worth is what the hold of that sum in a sandbox is worth. -/
noncomputable def Try.pinned : Pinned := { name := "ytnkfdkfmdeibfaa", sum := "4b8a01fbf31a0d954c6dc02455e39b860ac893b1997a09d096b98e1e075f2e43", checked := Try.checked }
namespace Rows
def none {H : Type} : Left H := { results := [], args := [] }

/-- 'screelaw05.ParseLines': WHATEVER THE INPUT: true; the input reads as it did. -/
def parseLinesSpec : ChangeSpec := { name := "parseLines", fn := fun _ => fun
  | [d1, d2] => { results := [.lit (.bool true)], args := [d1, d2] }
  | _ => none }
def parseLinesRow : OpenClaim := { program := "ytnkfdkfmdeibfaa", sum := "4b8a01fbf31a0d954c6dc02455e39b860ac893b1997a09d096b98e1e075f2e43", func := "scree/screelaw05.ParseLines", spec := "parseLines", inPlace := ["internal/bytealg.IndexByteString", "internal/bytealg.IndexString"], unfollowed := true, recurses := true, named := ["internal/bytealg.MaxLen"], apart := false }
def ParseLinesSaid : Prop := parseLinesRow.holds Try.pinned (OpenSpec.ofChange parseLinesSpec)

/-- ITS FALSE NEIGHBOUR: 'it returns false'. Refute it at one input. -/
def parseLinesWrong : ChangeSpec := { name := "parseLines", fn := fun _ => fun
  | [d1, d2] => { results := [.lit (.bool false)], args := [d1, d2] }
  | _ => none }
def ParseLinesWrongFalsely : Prop := parseLinesRow.holds Try.pinned (OpenSpec.ofChange parseLinesWrong)

/-- 'screelaw05.ParseFirst': WHATEVER THE INPUT: true; the input reads as it did. -/
def parseFirstSpec : ChangeSpec := { name := "parseFirst", fn := fun _ => fun
  | [d1, d2] => { results := [.lit (.bool true)], args := [d1, d2] }
  | _ => none }
def parseFirstRow : OpenClaim := { program := "ytnkfdkfmdeibfaa", sum := "4b8a01fbf31a0d954c6dc02455e39b860ac893b1997a09d096b98e1e075f2e43", func := "scree/screelaw05.ParseFirst", spec := "parseFirst", inPlace := ["internal/bytealg.IndexByteString", "internal/bytealg.IndexString"], unfollowed := true, recurses := true, named := ["internal/bytealg.MaxLen"], apart := false }
def ParseFirstSaid : Prop := parseFirstRow.holds Try.pinned (OpenSpec.ofChange parseFirstSpec)

/-- ITS FALSE NEIGHBOUR: 'it returns false'. Refute it at one input. -/
def parseFirstWrong : ChangeSpec := { name := "parseFirst", fn := fun _ => fun
  | [d1, d2] => { results := [.lit (.bool false)], args := [d1, d2] }
  | _ => none }
def ParseFirstWrongFalsely : Prop := parseFirstRow.holds Try.pinned (OpenSpec.ofChange parseFirstWrong)

/-- 'screelaw05.ParseCuts': WHATEVER THE INPUT: true; the input reads as it did. -/
def parseCutsSpec : ChangeSpec := { name := "parseCuts", fn := fun _ => fun
  | [d1, d2] => { results := [.lit (.bool true)], args := [d1, d2] }
  | _ => none }
def parseCutsRow : OpenClaim := { program := "ytnkfdkfmdeibfaa", sum := "4b8a01fbf31a0d954c6dc02455e39b860ac893b1997a09d096b98e1e075f2e43", func := "scree/screelaw05.ParseCuts", spec := "parseCuts", inPlace := ["internal/bytealg.IndexByteString", "internal/bytealg.IndexString"], unfollowed := true, recurses := true, named := ["internal/bytealg.MaxLen"], apart := false }
def ParseCutsSaid : Prop := parseCutsRow.holds Try.pinned (OpenSpec.ofChange parseCutsSpec)

/-- ITS FALSE NEIGHBOUR: 'it returns false'. Refute it at one input. -/
def parseCutsWrong : ChangeSpec := { name := "parseCuts", fn := fun _ => fun
  | [d1, d2] => { results := [.lit (.bool false)], args := [d1, d2] }
  | _ => none }
def ParseCutsWrongFalsely : Prop := parseCutsRow.holds Try.pinned (OpenSpec.ofChange parseCutsWrong)

/-- 'screelaw05.ParseKeeps': WHATEVER THE INPUT: true; the input reads as it did. -/
def parseKeepsSpec : ChangeSpec := { name := "parseKeeps", fn := fun _ => fun
  | [d] => { results := [.lit (.bool true)], args := [d] }
  | _ => none }
def parseKeepsRow : OpenClaim := { program := "ytnkfdkfmdeibfaa", sum := "4b8a01fbf31a0d954c6dc02455e39b860ac893b1997a09d096b98e1e075f2e43", func := "scree/screelaw05.ParseKeeps", spec := "parseKeeps", inPlace := ["internal/bytealg.IndexByteString", "internal/bytealg.IndexString"], unfollowed := true, recurses := true, named := ["internal/bytealg.MaxLen"], apart := false }
def ParseKeepsSaid : Prop := parseKeepsRow.holds Try.pinned (OpenSpec.ofChange parseKeepsSpec)

/-- ITS FALSE NEIGHBOUR: 'it returns false'. Refute it at one input. -/
def parseKeepsWrong : ChangeSpec := { name := "parseKeeps", fn := fun _ => fun
  | [d] => { results := [.lit (.bool false)], args := [d] }
  | _ => none }
def ParseKeepsWrongFalsely : Prop := parseKeepsRow.holds Try.pinned (OpenSpec.ofChange parseKeepsWrong)

/- THE SECOND FORM. 'bulk': how many values and letters a reading holds, each counted each time it is reached (what is shared counts as often as it is met; a slice's spare places count too). A statement '..UptoSaid' is the law's where the arguments, and the package variables that the reading takes, are together of bulk at most 1048576: NARROWER than '..Said'. Prove '..Said' where nothing that the law and all that it calls make is longer than what came in: it says more and counts as full. Else prove '..UptoSaid'. A law counts once. -/
mutual
def uptoBulk {H : Type} : DataW H → Nat
  | .lit (.string bytes) => bytes.length + 1
  | .lit _ => 1
  | .nil => 1
  | .ptr d => uptoBulk d + 1
  | .slice elems spare => uptoBulkAll elems + uptoBulkAll spare + 1
  | .agg parts => uptoBulkAll parts + 1
  | .iface _ d => uptoBulk d + 1
  | .map entries => uptoBulkEntries entries + 1
  | .held _ => 1
def uptoBulkAll {H : Type} : List (DataW H) → Nat
  | [] => 0
  | d :: r => uptoBulk d + uptoBulkAll r
def uptoBulkEntries {H : Type} : List (Lit × DataW H) → Nat
  | [] => 0
  | x :: r => uptoBulkEntry x + uptoBulkEntries r
def uptoBulkEntry {H : Type} : Lit × DataW H → Nat
  | (.string bytes, d) => bytes.length + uptoBulk d + 1
  | (_, d) => uptoBulk d + 1
 end
def uptoSmall : (H : Type) → List (DataW H) → Bool := fun _ ds => decide (uptoBulkAll ds ≤ 1048576)
def OpenSpec.upto (s : _root_.Go.ChangeSpec) : _root_.Go.OpenSpec := { _root_.Go.OpenSpec.ofChange s with cond := some uptoSmall }

/-- 'screelaw05.ParseLines', WHERE WHAT IT READS IS OF BULK AT MOST 1048576: true; the input reads as it did. -/
def parseLinesUptoRow : OpenClaim := { program := "ytnkfdkfmdeibfaa", sum := "4b8a01fbf31a0d954c6dc02455e39b860ac893b1997a09d096b98e1e075f2e43", func := "scree/screelaw05.ParseLines", spec := "parseLines", inPlace := ["internal/bytealg.IndexByteString", "internal/bytealg.IndexString"], unfollowed := true, recurses := true, named := ["internal/bytealg.MaxLen"], apart := false, narrowed := true }
def ParseLinesUptoSaid : Prop := parseLinesUptoRow.holds Try.pinned (OpenSpec.upto parseLinesSpec)

/-- 'screelaw05.ParseFirst', WHERE WHAT IT READS IS OF BULK AT MOST 1048576: true; the input reads as it did. -/
def parseFirstUptoRow : OpenClaim := { program := "ytnkfdkfmdeibfaa", sum := "4b8a01fbf31a0d954c6dc02455e39b860ac893b1997a09d096b98e1e075f2e43", func := "scree/screelaw05.ParseFirst", spec := "parseFirst", inPlace := ["internal/bytealg.IndexByteString", "internal/bytealg.IndexString"], unfollowed := true, recurses := true, named := ["internal/bytealg.MaxLen"], apart := false, narrowed := true }
def ParseFirstUptoSaid : Prop := parseFirstUptoRow.holds Try.pinned (OpenSpec.upto parseFirstSpec)

/-- 'screelaw05.ParseCuts', WHERE WHAT IT READS IS OF BULK AT MOST 1048576: true; the input reads as it did. -/
def parseCutsUptoRow : OpenClaim := { program := "ytnkfdkfmdeibfaa", sum := "4b8a01fbf31a0d954c6dc02455e39b860ac893b1997a09d096b98e1e075f2e43", func := "scree/screelaw05.ParseCuts", spec := "parseCuts", inPlace := ["internal/bytealg.IndexByteString", "internal/bytealg.IndexString"], unfollowed := true, recurses := true, named := ["internal/bytealg.MaxLen"], apart := false, narrowed := true }
def ParseCutsUptoSaid : Prop := parseCutsUptoRow.holds Try.pinned (OpenSpec.upto parseCutsSpec)

/-- 'screelaw05.ParseKeeps', WHERE WHAT IT READS IS OF BULK AT MOST 1048576: true; the input reads as it did. -/
def parseKeepsUptoRow : OpenClaim := { program := "ytnkfdkfmdeibfaa", sum := "4b8a01fbf31a0d954c6dc02455e39b860ac893b1997a09d096b98e1e075f2e43", func := "scree/screelaw05.ParseKeeps", spec := "parseKeeps", inPlace := ["internal/bytealg.IndexByteString", "internal/bytealg.IndexString"], unfollowed := true, recurses := true, named := ["internal/bytealg.MaxLen"], apart := false, narrowed := true }
def ParseKeepsUptoSaid : Prop := parseKeepsUptoRow.holds Try.pinned (OpenSpec.upto parseKeepsSpec)

end Rows
end Go.Proofs.Ytnkfdkfmdeibfaa
