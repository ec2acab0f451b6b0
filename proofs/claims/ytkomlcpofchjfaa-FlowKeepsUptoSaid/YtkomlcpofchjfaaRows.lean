/-
  No cell of these rows narrows 'for every input' (looked for: loops, veiled, ifaces, maps, wideKeys, modest, calm, conditions, laid).
  DERIVED. THE GIVEN ROWS OF THIS SEAT. 6 by the template 'for every input the law returns true; each argument reads behind the call as it read before'; 0 by the template 'total and deterministic' (their statements: YtkomlcpofchjfaaTotals.lean).
  GIVEN WITH THE SEED: the statements are not yours to turn. If you find one false, say at which input.
  Laid BY PROGRAM, IN A SANDBOX (cutbox-rows.mjs): the forced cells as the released guide's own fill.sh prints them over the translation fa86ff47116fbcce… (all of the seat's roots in one cut). By AI agents, Wed Nov 11 2026. No macro, syntax, notation, axiom, sorry.
-/
import Derived.Test.YtkomlcpofchjfaaChecked
import GoSem.Claim
import GoSem.ClaimJoined
import GoSem.ClaimMapViews
import Derived.JoinedTies
import Derived.KernelRfl
namespace Go.Proofs.Ytkomlcpofchjfaa
/- THE CELL 'sum', in the pinned program and in every row, IS THE sha256 OF THE DUMP (.gsa) THAT YtkomlcpofchjfaaProg.lean LOADS. Nothing in Lean hashes anything: it is a label: what it is worth is what the hold of that sum in a sandbox is worth. -/
noncomputable def Try.pinned : Pinned := { name := "ytkomlcpofchjfaa", sum := "fa86ff47116fbcceb0b9ac891464138537a4f8de60902dac12d093a4325a1dff", checked := Try.checked }
namespace Rows
def none {H : Type} : Left H := { results := [], args := [] }

/-- 'screelaw10.FlowLive': WHATEVER THE INPUT: true; the input reads as it did. -/
def flowLiveSpec : ChangeSpec := { name := "flowLive", fn := fun _ => fun
  | [d] => { results := [.lit (.bool true)], args := [d] }
  | _ => none }
def flowLiveRow : OpenClaim := { program := "ytkomlcpofchjfaa", sum := "fa86ff47116fbcceb0b9ac891464138537a4f8de60902dac12d093a4325a1dff", func := "scree/screelaw10.FlowLive", spec := "flowLive", unfollowed := true, recurses := true, apart := false }
def FlowLiveSaid : Prop := flowLiveRow.holds Try.pinned (OpenSpec.ofChange flowLiveSpec)

/-- ITS FALSE NEIGHBOUR: 'it returns false'. Refute it at one input. -/
def flowLiveWrong : ChangeSpec := { name := "flowLive", fn := fun _ => fun
  | [d] => { results := [.lit (.bool false)], args := [d] }
  | _ => none }
def FlowLiveWrongFalsely : Prop := flowLiveRow.holds Try.pinned (OpenSpec.ofChange flowLiveWrong)

/-- 'screelaw10.FlowPaths': WHATEVER THE INPUT: true; the input reads as it did. -/
def flowPathsSpec : ChangeSpec := { name := "flowPaths", fn := fun _ => fun
  | [d1, d2, d3] => { results := [.lit (.bool true)], args := [d1, d2, d3] }
  | _ => none }
def flowPathsRow : OpenClaim := { program := "ytkomlcpofchjfaa", sum := "fa86ff47116fbcceb0b9ac891464138537a4f8de60902dac12d093a4325a1dff", func := "scree/screelaw10.FlowPaths", spec := "flowPaths", unfollowed := true, recurses := true, apart := false }
def FlowPathsSaid : Prop := flowPathsRow.holds Try.pinned (OpenSpec.ofChange flowPathsSpec)

/-- ITS FALSE NEIGHBOUR: 'it returns false'. Refute it at one input. -/
def flowPathsWrong : ChangeSpec := { name := "flowPaths", fn := fun _ => fun
  | [d1, d2, d3] => { results := [.lit (.bool false)], args := [d1, d2, d3] }
  | _ => none }
def FlowPathsWrongFalsely : Prop := flowPathsRow.holds Try.pinned (OpenSpec.ofChange flowPathsWrong)

/-- 'screelaw10.FlowLess': WHATEVER THE INPUT: true; the input reads as it did. -/
def flowLessSpec : ChangeSpec := { name := "flowLess", fn := fun _ => fun
  | [d1, d2] => { results := [.lit (.bool true)], args := [d1, d2] }
  | _ => none }
def flowLessRow : OpenClaim := { program := "ytkomlcpofchjfaa", sum := "fa86ff47116fbcceb0b9ac891464138537a4f8de60902dac12d093a4325a1dff", func := "scree/screelaw10.FlowLess", spec := "flowLess", unfollowed := true, recurses := true, apart := false }
def FlowLessSaid : Prop := flowLessRow.holds Try.pinned (OpenSpec.ofChange flowLessSpec)

/-- ITS FALSE NEIGHBOUR: 'it returns false'. Refute it at one input. -/
def flowLessWrong : ChangeSpec := { name := "flowLess", fn := fun _ => fun
  | [d1, d2] => { results := [.lit (.bool false)], args := [d1, d2] }
  | _ => none }
def FlowLessWrongFalsely : Prop := flowLessRow.holds Try.pinned (OpenSpec.ofChange flowLessWrong)

/-- 'screelaw10.FlowKeeps': WHATEVER THE INPUT: true; the input reads as it did. -/
def flowKeepsSpec : ChangeSpec := { name := "flowKeeps", fn := fun _ => fun
  | [d] => { results := [.lit (.bool true)], args := [d] }
  | _ => none }
def flowKeepsRow : OpenClaim := { program := "ytkomlcpofchjfaa", sum := "fa86ff47116fbcceb0b9ac891464138537a4f8de60902dac12d093a4325a1dff", func := "scree/screelaw10.FlowKeeps", spec := "flowKeeps", unfollowed := true, recurses := true, apart := false }
def FlowKeepsSaid : Prop := flowKeepsRow.holds Try.pinned (OpenSpec.ofChange flowKeepsSpec)

/-- ITS FALSE NEIGHBOUR: 'it returns false'. Refute it at one input. -/
def flowKeepsWrong : ChangeSpec := { name := "flowKeeps", fn := fun _ => fun
  | [d] => { results := [.lit (.bool false)], args := [d] }
  | _ => none }
def FlowKeepsWrongFalsely : Prop := flowKeepsRow.holds Try.pinned (OpenSpec.ofChange flowKeepsWrong)

/-- 'screelaw10.FlowWays': WHATEVER THE INPUT: true; the input reads as it did. -/
def flowWaysSpec : ChangeSpec := { name := "flowWays", fn := fun _ => fun
  | [d1, d2] => { results := [.lit (.bool true)], args := [d1, d2] }
  | _ => none }
def flowWaysRow : OpenClaim := { program := "ytkomlcpofchjfaa", sum := "fa86ff47116fbcceb0b9ac891464138537a4f8de60902dac12d093a4325a1dff", func := "scree/screelaw10.FlowWays", spec := "flowWays", unfollowed := true, recurses := true, apart := false }
def FlowWaysSaid : Prop := flowWaysRow.holds Try.pinned (OpenSpec.ofChange flowWaysSpec)

/-- ITS FALSE NEIGHBOUR: 'it returns false'. Refute it at one input. -/
def flowWaysWrong : ChangeSpec := { name := "flowWays", fn := fun _ => fun
  | [d1, d2] => { results := [.lit (.bool false)], args := [d1, d2] }
  | _ => none }
def FlowWaysWrongFalsely : Prop := flowWaysRow.holds Try.pinned (OpenSpec.ofChange flowWaysWrong)

/-- 'screelaw10.FlowReach': WHATEVER THE INPUT: true; the input reads as it did. -/
def flowReachSpec : ChangeSpec := { name := "flowReach", fn := fun _ => fun
  | [d] => { results := [.lit (.bool true)], args := [d] }
  | _ => none }
def flowReachRow : OpenClaim := { program := "ytkomlcpofchjfaa", sum := "fa86ff47116fbcceb0b9ac891464138537a4f8de60902dac12d093a4325a1dff", func := "scree/screelaw10.FlowReach", spec := "flowReach", unfollowed := true, recurses := true, apart := false }
def FlowReachSaid : Prop := flowReachRow.holds Try.pinned (OpenSpec.ofChange flowReachSpec)

/-- ITS FALSE NEIGHBOUR: 'it returns false'. Refute it at one input. -/
def flowReachWrong : ChangeSpec := { name := "flowReach", fn := fun _ => fun
  | [d] => { results := [.lit (.bool false)], args := [d] }
  | _ => none }
def FlowReachWrongFalsely : Prop := flowReachRow.holds Try.pinned (OpenSpec.ofChange flowReachWrong)

/- THE SECOND FORM. 'bulk': how many values and letters a reading holds, each counted each time it is reached (what is shared counts as often as it is met; a slice's spare places count too). A statement '..UptoSaid' is the law's where the arguments, and the package variables that the reading takes, are together of bulk at most 1048576: NARROWER than '..Said'. Prove '..Said' where nothing that the law and all that it calls make is longer than what came in: it says more and counts as full. Else prove '..UptoSaid'. A law counts once. -/
mutual
def uptoBulk {H : Type} : DataW H → Nat
  | .lit (.string bytes) => bytes.length + 1
  | .lit _ => 1
  | .nil => 1
  | .ptr d => uptoBulk d + 1
  | .slice elems spare => uptoBulkAll elems + uptoBulkAll spare + 1
  | .agg parts => uptoBulkAll parts + 1
  | .iface _ d => uptoBulk d + 1
  | .map entries => uptoBulkEntries entries + 1
  | .held _ => 1
def uptoBulkAll {H : Type} : List (DataW H) → Nat
  | [] => 0
  | d :: r => uptoBulk d + uptoBulkAll r
def uptoBulkEntries {H : Type} : List (Lit × DataW H) → Nat
  | [] => 0
  | x :: r => uptoBulkEntry x + uptoBulkEntries r
def uptoBulkEntry {H : Type} : Lit × DataW H → Nat
  | (.string bytes, d) => bytes.length + uptoBulk d + 1
  | (_, d) => uptoBulk d + 1
 end
def uptoSmall : (H : Type) → List (DataW H) → Bool := fun _ ds => decide (uptoBulkAll ds ≤ 1048576)
def OpenSpec.upto (s : _root_.Go.ChangeSpec) : _root_.Go.OpenSpec := { _root_.Go.OpenSpec.ofChange s with cond := some uptoSmall }

/-- 'screelaw10.FlowLive', WHERE WHAT IT READS IS OF BULK AT MOST 1048576: true; the input reads as it did. -/
def flowLiveUptoRow : OpenClaim := { program := "ytkomlcpofchjfaa", sum := "fa86ff47116fbcceb0b9ac891464138537a4f8de60902dac12d093a4325a1dff", func := "scree/screelaw10.FlowLive", spec := "flowLive", unfollowed := true, recurses := true, apart := false, narrowed := true }
def FlowLiveUptoSaid : Prop := flowLiveUptoRow.holds Try.pinned (OpenSpec.upto flowLiveSpec)

/-- 'screelaw10.FlowPaths', WHERE WHAT IT READS IS OF BULK AT MOST 1048576: true; the input reads as it did. -/
def flowPathsUptoRow : OpenClaim := { program := "ytkomlcpofchjfaa", sum := "fa86ff47116fbcceb0b9ac891464138537a4f8de60902dac12d093a4325a1dff", func := "scree/screelaw10.FlowPaths", spec := "flowPaths", unfollowed := true, recurses := true, apart := false, narrowed := true }
def FlowPathsUptoSaid : Prop := flowPathsUptoRow.holds Try.pinned (OpenSpec.upto flowPathsSpec)

/-- 'screelaw10.FlowLess', WHERE WHAT IT READS IS OF BULK AT MOST 1048576: true; the input reads as it did. -/
def flowLessUptoRow : OpenClaim := { program := "ytkomlcpofchjfaa", sum := "fa86ff47116fbcceb0b9ac891464138537a4f8de60902dac12d093a4325a1dff", func := "scree/screelaw10.FlowLess", spec := "flowLess", unfollowed := true, recurses := true, apart := false, narrowed := true }
def FlowLessUptoSaid : Prop := flowLessUptoRow.holds Try.pinned (OpenSpec.upto flowLessSpec)

/-- 'screelaw10.FlowKeeps', WHERE WHAT IT READS IS OF BULK AT MOST 1048576: true; the input reads as it did. -/
def flowKeepsUptoRow : OpenClaim := { program := "ytkomlcpofchjfaa", sum := "fa86ff47116fbcceb0b9ac891464138537a4f8de60902dac12d093a4325a1dff", func := "scree/screelaw10.FlowKeeps", spec := "flowKeeps", unfollowed := true, recurses := true, apart := false, narrowed := true }
def FlowKeepsUptoSaid : Prop := flowKeepsUptoRow.holds Try.pinned (OpenSpec.upto flowKeepsSpec)

/-- 'screelaw10.FlowWays', WHERE WHAT IT READS IS OF BULK AT MOST 1048576: true; the input reads as it did. -/
def flowWaysUptoRow : OpenClaim := { program := "ytkomlcpofchjfaa", sum := "fa86ff47116fbcceb0b9ac891464138537a4f8de60902dac12d093a4325a1dff", func := "scree/screelaw10.FlowWays", spec := "flowWays", unfollowed := true, recurses := true, apart := false, narrowed := true }
def FlowWaysUptoSaid : Prop := flowWaysUptoRow.holds Try.pinned (OpenSpec.upto flowWaysSpec)

/-- 'screelaw10.FlowReach', WHERE WHAT IT READS IS OF BULK AT MOST 1048576: true; the input reads as it did. -/
def flowReachUptoRow : OpenClaim := { program := "ytkomlcpofchjfaa", sum := "fa86ff47116fbcceb0b9ac891464138537a4f8de60902dac12d093a4325a1dff", func := "scree/screelaw10.FlowReach", spec := "flowReach", unfollowed := true, recurses := true, apart := false, narrowed := true }
def FlowReachUptoSaid : Prop := flowReachUptoRow.holds Try.pinned (OpenSpec.upto flowReachSpec)

end Rows
end Go.Proofs.Ytkomlcpofchjfaa
