/-
  No cell of these rows narrows 'for every input' (looked for: loops, veiled, ifaces, maps, wideKeys, modest, calm, conditions, laid).
  DERIVED. THE GIVEN ROWS OF THIS SEAT. 5 by the template 'for every input the law returns true; each argument reads behind the call as it read before'; 0 by the template 'total and deterministic' (their statements: YtapcoeecjlkdgaaTotals.lean).
  GIVEN WITH THE SEED: the statements are not yours to turn. If you find one false, say at which input.
  Laid BY PROGRAM, IN A SANDBOX (cutbox-rows.mjs): the forced cells as the released guide's own fill.sh prints them over the translation 7649ee944a1c085c… (all of the seat's roots in one cut). By AI agents, Wed Nov 11 2026. No macro, syntax, notation, axiom, sorry.
-/
import Derived.Test.YtapcoeecjlkdgaaChecked
import GoSem.Claim
import GoSem.ClaimJoined
import GoSem.ClaimMapViews
import Derived.JoinedTies
import Derived.KernelRfl
namespace Go.Proofs.Ytapcoeecjlkdgaa
/- THE CELL 'sum', in the pinned program and in every row, IS THE sha256 OF THE DUMP (.gsa) THAT YtapcoeecjlkdgaaProg.lean LOADS. Nothing in Lean hashes anything: it is a label: what it is worth is what the hold of that sum in a sandbox is worth. -/
noncomputable def Try.pinned : Pinned := { name := "ytapcoeecjlkdgaa", sum := "7649ee944a1c085c83ae0b3b3ef2ea5a2fd1ed6e7ff6252dc79f65692096df5c", checked := Try.checked }
namespace Rows
def none {H : Type} : Left H := { results := [], args := [] }

/-- 'screelaw12.RootsMaps': WHATEVER THE INPUT: true; the input reads as it did. -/
def rootsMapsSpec : ChangeSpec := { name := "rootsMaps", fn := fun _ => fun
  | [d] => { results := [.lit (.bool true)], args := [d] }
  | _ => none }
def rootsMapsRow : OpenClaim := { program := "ytapcoeecjlkdgaa", sum := "7649ee944a1c085c83ae0b3b3ef2ea5a2fd1ed6e7ff6252dc79f65692096df5c", func := "scree/screelaw12.RootsMaps", spec := "rootsMaps", unfollowed := true, recurses := true, apart := false }
def RootsMapsSaid : Prop := rootsMapsRow.holds Try.pinned (OpenSpec.ofChange rootsMapsSpec)

/-- ITS FALSE NEIGHBOUR: 'it returns false'. Refute it at one input. -/
def rootsMapsWrong : ChangeSpec := { name := "rootsMaps", fn := fun _ => fun
  | [d] => { results := [.lit (.bool false)], args := [d] }
  | _ => none }
def RootsMapsWrongFalsely : Prop := rootsMapsRow.holds Try.pinned (OpenSpec.ofChange rootsMapsWrong)

/-- 'screelaw12.RootsBits': WHATEVER THE INPUT: true; the input reads as it did. -/
def rootsBitsSpec : ChangeSpec := { name := "rootsBits", fn := fun _ => fun
  | [d1, d2] => { results := [.lit (.bool true)], args := [d1, d2] }
  | _ => none }
def rootsBitsRow : OpenClaim := { program := "ytapcoeecjlkdgaa", sum := "7649ee944a1c085c83ae0b3b3ef2ea5a2fd1ed6e7ff6252dc79f65692096df5c", func := "scree/screelaw12.RootsBits", spec := "rootsBits", unfollowed := true, recurses := true, apart := false }
def RootsBitsSaid : Prop := rootsBitsRow.holds Try.pinned (OpenSpec.ofChange rootsBitsSpec)

/-- ITS FALSE NEIGHBOUR: 'it returns false'. Refute it at one input. -/
def rootsBitsWrong : ChangeSpec := { name := "rootsBits", fn := fun _ => fun
  | [d1, d2] => { results := [.lit (.bool false)], args := [d1, d2] }
  | _ => none }
def RootsBitsWrongFalsely : Prop := rootsBitsRow.holds Try.pinned (OpenSpec.ofChange rootsBitsWrong)

/-- 'screelaw12.RootsEnough': WHATEVER THE INPUT: true; the input reads as it did. -/
def rootsEnoughSpec : ChangeSpec := { name := "rootsEnough", fn := fun _ => fun
  | [d1, d2, d3] => { results := [.lit (.bool true)], args := [d1, d2, d3] }
  | _ => none }
def rootsEnoughRow : OpenClaim := { program := "ytapcoeecjlkdgaa", sum := "7649ee944a1c085c83ae0b3b3ef2ea5a2fd1ed6e7ff6252dc79f65692096df5c", func := "scree/screelaw12.RootsEnough", spec := "rootsEnough", unfollowed := true, recurses := true, apart := false }
def RootsEnoughSaid : Prop := rootsEnoughRow.holds Try.pinned (OpenSpec.ofChange rootsEnoughSpec)

/-- ITS FALSE NEIGHBOUR: 'it returns false'. Refute it at one input. -/
def rootsEnoughWrong : ChangeSpec := { name := "rootsEnough", fn := fun _ => fun
  | [d1, d2, d3] => { results := [.lit (.bool false)], args := [d1, d2, d3] }
  | _ => none }
def RootsEnoughWrongFalsely : Prop := rootsEnoughRow.holds Try.pinned (OpenSpec.ofChange rootsEnoughWrong)

/-- 'screelaw12.RootsNoMore': WHATEVER THE INPUT: true; the input reads as it did. -/
def rootsNoMoreSpec : ChangeSpec := { name := "rootsNoMore", fn := fun _ => fun
  | [d1, d2] => { results := [.lit (.bool true)], args := [d1, d2] }
  | _ => none }
def rootsNoMoreRow : OpenClaim := { program := "ytapcoeecjlkdgaa", sum := "7649ee944a1c085c83ae0b3b3ef2ea5a2fd1ed6e7ff6252dc79f65692096df5c", func := "scree/screelaw12.RootsNoMore", spec := "rootsNoMore", unfollowed := true, recurses := true, apart := false }
def RootsNoMoreSaid : Prop := rootsNoMoreRow.holds Try.pinned (OpenSpec.ofChange rootsNoMoreSpec)

/-- ITS FALSE NEIGHBOUR: 'it returns false'. Refute it at one input. -/
def rootsNoMoreWrong : ChangeSpec := { name := "rootsNoMore", fn := fun _ => fun
  | [d1, d2] => { results := [.lit (.bool false)], args := [d1, d2] }
  | _ => none }
def RootsNoMoreWrongFalsely : Prop := rootsNoMoreRow.holds Try.pinned (OpenSpec.ofChange rootsNoMoreWrong)

/-- 'screelaw12.RootsKeeps': WHATEVER THE INPUT: true; the input reads as it did. -/
def rootsKeepsSpec : ChangeSpec := { name := "rootsKeeps", fn := fun _ => fun
  | [d] => { results := [.lit (.bool true)], args := [d] }
  | _ => none }
def rootsKeepsRow : OpenClaim := { program := "ytapcoeecjlkdgaa", sum := "7649ee944a1c085c83ae0b3b3ef2ea5a2fd1ed6e7ff6252dc79f65692096df5c", func := "scree/screelaw12.RootsKeeps", spec := "rootsKeeps", unfollowed := true, recurses := true, apart := false }
def RootsKeepsSaid : Prop := rootsKeepsRow.holds Try.pinned (OpenSpec.ofChange rootsKeepsSpec)

/-- ITS FALSE NEIGHBOUR: 'it returns false'. Refute it at one input. -/
def rootsKeepsWrong : ChangeSpec := { name := "rootsKeeps", fn := fun _ => fun
  | [d] => { results := [.lit (.bool false)], args := [d] }
  | _ => none }
def RootsKeepsWrongFalsely : Prop := rootsKeepsRow.holds Try.pinned (OpenSpec.ofChange rootsKeepsWrong)

/- THE SECOND FORM. 'bulk': how many values and letters a reading holds, each counted each time it is reached (what is shared counts as often as it is met; a slice's spare places count too). A statement '..UptoSaid' is the law's where the arguments, and the package variables that the reading takes, are together of bulk at most 1048576: NARROWER than '..Said'. Prove '..Said' where nothing that the law and all that it calls make is longer than what came in: it says more and counts as full. Else prove '..UptoSaid'. A law counts once. -/
mutual
def uptoBulk {H : Type} : DataW H → Nat
  | .lit (.string bytes) => bytes.length + 1
  | .lit _ => 1
  | .nil => 1
  | .ptr d => uptoBulk d + 1
  | .slice elems spare => uptoBulkAll elems + uptoBulkAll spare + 1
  | .agg parts => uptoBulkAll parts + 1
  | .iface _ d => uptoBulk d + 1
  | .map entries => uptoBulkEntries entries + 1
  | .held _ => 1
def uptoBulkAll {H : Type} : List (DataW H) → Nat
  | [] => 0
  | d :: r => uptoBulk d + uptoBulkAll r
def uptoBulkEntries {H : Type} : List (Lit × DataW H) → Nat
  | [] => 0
  | x :: r => uptoBulkEntry x + uptoBulkEntries r
def uptoBulkEntry {H : Type} : Lit × DataW H → Nat
  | (.string bytes, d) => bytes.length + uptoBulk d + 1
  | (_, d) => uptoBulk d + 1
 end
def uptoSmall : (H : Type) → List (DataW H) → Bool := fun _ ds => decide (uptoBulkAll ds ≤ 1048576)
def OpenSpec.upto (s : _root_.Go.ChangeSpec) : _root_.Go.OpenSpec := { _root_.Go.OpenSpec.ofChange s with cond := some uptoSmall }

/-- 'screelaw12.RootsMaps', WHERE WHAT IT READS IS OF BULK AT MOST 1048576: true; the input reads as it did. -/
def rootsMapsUptoRow : OpenClaim := { program := "ytapcoeecjlkdgaa", sum := "7649ee944a1c085c83ae0b3b3ef2ea5a2fd1ed6e7ff6252dc79f65692096df5c", func := "scree/screelaw12.RootsMaps", spec := "rootsMaps", unfollowed := true, recurses := true, apart := false, narrowed := true }
def RootsMapsUptoSaid : Prop := rootsMapsUptoRow.holds Try.pinned (OpenSpec.upto rootsMapsSpec)

/-- 'screelaw12.RootsBits', WHERE WHAT IT READS IS OF BULK AT MOST 1048576: true; the input reads as it did. -/
def rootsBitsUptoRow : OpenClaim := { program := "ytapcoeecjlkdgaa", sum := "7649ee944a1c085c83ae0b3b3ef2ea5a2fd1ed6e7ff6252dc79f65692096df5c", func := "scree/screelaw12.RootsBits", spec := "rootsBits", unfollowed := true, recurses := true, apart := false, narrowed := true }
def RootsBitsUptoSaid : Prop := rootsBitsUptoRow.holds Try.pinned (OpenSpec.upto rootsBitsSpec)

/-- 'screelaw12.RootsEnough', WHERE WHAT IT READS IS OF BULK AT MOST 1048576: true; the input reads as it did. -/
def rootsEnoughUptoRow : OpenClaim := { program := "ytapcoeecjlkdgaa", sum := "7649ee944a1c085c83ae0b3b3ef2ea5a2fd1ed6e7ff6252dc79f65692096df5c", func := "scree/screelaw12.RootsEnough", spec := "rootsEnough", unfollowed := true, recurses := true, apart := false, narrowed := true }
def RootsEnoughUptoSaid : Prop := rootsEnoughUptoRow.holds Try.pinned (OpenSpec.upto rootsEnoughSpec)

/-- 'screelaw12.RootsNoMore', WHERE WHAT IT READS IS OF BULK AT MOST 1048576: true; the input reads as it did. -/
def rootsNoMoreUptoRow : OpenClaim := { program := "ytapcoeecjlkdgaa", sum := "7649ee944a1c085c83ae0b3b3ef2ea5a2fd1ed6e7ff6252dc79f65692096df5c", func := "scree/screelaw12.RootsNoMore", spec := "rootsNoMore", unfollowed := true, recurses := true, apart := false, narrowed := true }
def RootsNoMoreUptoSaid : Prop := rootsNoMoreUptoRow.holds Try.pinned (OpenSpec.upto rootsNoMoreSpec)

/-- 'screelaw12.RootsKeeps', WHERE WHAT IT READS IS OF BULK AT MOST 1048576: true; the input reads as it did. -/
def rootsKeepsUptoRow : OpenClaim := { program := "ytapcoeecjlkdgaa", sum := "7649ee944a1c085c83ae0b3b3ef2ea5a2fd1ed6e7ff6252dc79f65692096df5c", func := "scree/screelaw12.RootsKeeps", spec := "rootsKeeps", unfollowed := true, recurses := true, apart := false, narrowed := true }
def RootsKeepsUptoSaid : Prop := rootsKeepsUptoRow.holds Try.pinned (OpenSpec.upto rootsKeepsSpec)

end Rows
end Go.Proofs.Ytapcoeecjlkdgaa
