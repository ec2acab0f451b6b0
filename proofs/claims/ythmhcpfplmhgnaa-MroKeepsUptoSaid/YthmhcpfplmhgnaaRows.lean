/-
  No cell of these rows narrows 'for every input' (looked for: loops, veiled, ifaces, maps, wideKeys, modest, calm, conditions, laid).
  DERIVED. THE GIVEN ROWS OF THIS SEAT. 3 by the template 'for every input the law returns true; each argument reads behind the call as it read before'; 0 by the template 'total and deterministic' (their statements: YthmhcpfplmhgnaaTotals.lean).
  GIVEN WITH THE SEED: the statements are not yours to turn. If you find one false, say at which input.
  Laid BY PROGRAM, IN A SANDBOX (cutbox-rows.mjs): the forced cells as the released guide's own fill.sh prints them over the translation b5718630466f2dfd… (all of the seat's roots in one cut). By AI agents, Wed Nov 11 2026. No macro, syntax, notation, axiom, sorry.
-/
import Derived.Test.YthmhcpfplmhgnaaChecked
import GoSem.Claim
import GoSem.ClaimJoined
import GoSem.ClaimMapViews
import Derived.JoinedTies
import Derived.KernelRfl
namespace Go.Proofs.Ythmhcpfplmhgnaa
/- THE CELL 'sum', in the pinned program and in every row, IS THE sha256 OF THE DUMP (.gsa) THAT YthmhcpfplmhgnaaProg.lean LOADS. Nothing in Lean hashes anything: it is a label: what it is worth is what the hold of that sum in a sandbox is worth. -/
noncomputable def Try.pinned : Pinned := { name := "ythmhcpfplmhgnaa", sum := "b5718630466f2dfd137b85e1017aa6ef8d30c2297309d5c4538663434581d8db", checked := Try.checked }
namespace Rows
def none {H : Type} : Left H := { results := [], args := [] }

/-- 'screelaw19.MroOrders': WHATEVER THE INPUT: true; the input reads as it did. -/
def mroOrdersSpec : ChangeSpec := { name := "mroOrders", fn := fun _ => fun
  | [d1, d2, d3] => { results := [.lit (.bool true)], args := [d1, d2, d3] }
  | _ => none }
def mroOrdersRow : OpenClaim := { program := "ythmhcpfplmhgnaa", sum := "b5718630466f2dfd137b85e1017aa6ef8d30c2297309d5c4538663434581d8db", func := "scree/screelaw19.MroOrders", spec := "mroOrders", recurses := true, apart := false }
def MroOrdersSaid : Prop := mroOrdersRow.holds Try.pinned (OpenSpec.ofChange mroOrdersSpec)

/-- ITS FALSE NEIGHBOUR: 'it returns false'. Refute it at one input. -/
def mroOrdersWrong : ChangeSpec := { name := "mroOrders", fn := fun _ => fun
  | [d1, d2, d3] => { results := [.lit (.bool false)], args := [d1, d2, d3] }
  | _ => none }
def MroOrdersWrongFalsely : Prop := mroOrdersRow.holds Try.pinned (OpenSpec.ofChange mroOrdersWrong)

/-- 'screelaw19.MroKeepsOrders': WHATEVER THE INPUT: true; the input reads as it did. -/
def mroKeepsOrdersSpec : ChangeSpec := { name := "mroKeepsOrders", fn := fun _ => fun
  | [d1, d2] => { results := [.lit (.bool true)], args := [d1, d2] }
  | _ => none }
def mroKeepsOrdersRow : OpenClaim := { program := "ythmhcpfplmhgnaa", sum := "b5718630466f2dfd137b85e1017aa6ef8d30c2297309d5c4538663434581d8db", func := "scree/screelaw19.MroKeepsOrders", spec := "mroKeepsOrders", recurses := true, apart := false }
def MroKeepsOrdersSaid : Prop := mroKeepsOrdersRow.holds Try.pinned (OpenSpec.ofChange mroKeepsOrdersSpec)

/-- ITS FALSE NEIGHBOUR: 'it returns false'. Refute it at one input. -/
def mroKeepsOrdersWrong : ChangeSpec := { name := "mroKeepsOrders", fn := fun _ => fun
  | [d1, d2] => { results := [.lit (.bool false)], args := [d1, d2] }
  | _ => none }
def MroKeepsOrdersWrongFalsely : Prop := mroKeepsOrdersRow.holds Try.pinned (OpenSpec.ofChange mroKeepsOrdersWrong)

/-- 'screelaw19.MroKeeps': WHATEVER THE INPUT: true; the input reads as it did. -/
def mroKeepsSpec : ChangeSpec := { name := "mroKeeps", fn := fun _ => fun
  | [d1, d2] => { results := [.lit (.bool true)], args := [d1, d2] }
  | _ => none }
def mroKeepsRow : OpenClaim := { program := "ythmhcpfplmhgnaa", sum := "b5718630466f2dfd137b85e1017aa6ef8d30c2297309d5c4538663434581d8db", func := "scree/screelaw19.MroKeeps", spec := "mroKeeps", recurses := true, apart := false }
def MroKeepsSaid : Prop := mroKeepsRow.holds Try.pinned (OpenSpec.ofChange mroKeepsSpec)

/-- ITS FALSE NEIGHBOUR: 'it returns false'. Refute it at one input. -/
def mroKeepsWrong : ChangeSpec := { name := "mroKeeps", fn := fun _ => fun
  | [d1, d2] => { results := [.lit (.bool false)], args := [d1, d2] }
  | _ => none }
def MroKeepsWrongFalsely : Prop := mroKeepsRow.holds Try.pinned (OpenSpec.ofChange mroKeepsWrong)

/- THE SECOND FORM. 'bulk': how many values and letters a reading holds, each counted each time it is reached (what is shared counts as often as it is met; a slice's spare places count too). A statement '..UptoSaid' is the law's where the arguments, and the package variables that the reading takes, are together of bulk at most 1048576: NARROWER than '..Said'. Prove '..Said' where nothing that the law and all that it calls make is longer than what came in: it says more and counts as full. Else prove '..UptoSaid'. A law counts once. -/
mutual
def uptoBulk {H : Type} : DataW H → Nat
  | .lit (.string bytes) => bytes.length + 1
  | .lit _ => 1
  | .nil => 1
  | .ptr d => uptoBulk d + 1
  | .slice elems spare => uptoBulkAll elems + uptoBulkAll spare + 1
  | .agg parts => uptoBulkAll parts + 1
  | .iface _ d => uptoBulk d + 1
  | .map entries => uptoBulkEntries entries + 1
  | .held _ => 1
def uptoBulkAll {H : Type} : List (DataW H) → Nat
  | [] => 0
  | d :: r => uptoBulk d + uptoBulkAll r
def uptoBulkEntries {H : Type} : List (Lit × DataW H) → Nat
  | [] => 0
  | x :: r => uptoBulkEntry x + uptoBulkEntries r
def uptoBulkEntry {H : Type} : Lit × DataW H → Nat
  | (.string bytes, d) => bytes.length + uptoBulk d + 1
  | (_, d) => uptoBulk d + 1
 end
def uptoSmall : (H : Type) → List (DataW H) → Bool := fun _ ds => decide (uptoBulkAll ds ≤ 1048576)
def OpenSpec.upto (s : _root_.Go.ChangeSpec) : _root_.Go.OpenSpec := { _root_.Go.OpenSpec.ofChange s with cond := some uptoSmall }

/-- 'screelaw19.MroOrders', WHERE WHAT IT READS IS OF BULK AT MOST 1048576: true; the input reads as it did. -/
def mroOrdersUptoRow : OpenClaim := { program := "ythmhcpfplmhgnaa", sum := "b5718630466f2dfd137b85e1017aa6ef8d30c2297309d5c4538663434581d8db", func := "scree/screelaw19.MroOrders", spec := "mroOrders", recurses := true, apart := false, narrowed := true }
def MroOrdersUptoSaid : Prop := mroOrdersUptoRow.holds Try.pinned (OpenSpec.upto mroOrdersSpec)

/-- 'screelaw19.MroKeepsOrders', WHERE WHAT IT READS IS OF BULK AT MOST 1048576: true; the input reads as it did. -/
def mroKeepsOrdersUptoRow : OpenClaim := { program := "ythmhcpfplmhgnaa", sum := "b5718630466f2dfd137b85e1017aa6ef8d30c2297309d5c4538663434581d8db", func := "scree/screelaw19.MroKeepsOrders", spec := "mroKeepsOrders", recurses := true, apart := false, narrowed := true }
def MroKeepsOrdersUptoSaid : Prop := mroKeepsOrdersUptoRow.holds Try.pinned (OpenSpec.upto mroKeepsOrdersSpec)

/-- 'screelaw19.MroKeeps', WHERE WHAT IT READS IS OF BULK AT MOST 1048576: true; the input reads as it did. -/
def mroKeepsUptoRow : OpenClaim := { program := "ythmhcpfplmhgnaa", sum := "b5718630466f2dfd137b85e1017aa6ef8d30c2297309d5c4538663434581d8db", func := "scree/screelaw19.MroKeeps", spec := "mroKeeps", recurses := true, apart := false, narrowed := true }
def MroKeepsUptoSaid : Prop := mroKeepsUptoRow.holds Try.pinned (OpenSpec.upto mroKeepsSpec)

end Rows
end Go.Proofs.Ythmhcpfplmhgnaa
