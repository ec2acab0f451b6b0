/-
  No cell of these rows narrows 'for every input' (looked for: loops, veiled, ifaces, maps, wideKeys, modest, calm, conditions, laid).
  DERIVED. THE GIVEN ROWS OF THIS SEAT. 4 by the template 'for every input the law returns true; each argument reads behind the call as it read before'; 0 by the template 'total and deterministic' (their statements: YtmpojphjongdcaaTotals.lean).
  GIVEN WITH THE SEED: the statements are not yours to turn. If you find one false, say at which input.
  Laid BY PROGRAM, IN A SANDBOX (cutbox-rows.mjs): the forced cells as the released guide's own fill.sh prints them over the translation 6f9f514a84b837d9… (all of the seat's roots in one cut). By AI agents, Wed Nov 11 2026. No macro, syntax, notation, axiom, sorry.
-/
import Derived.Test.YtmpojphjongdcaaChecked
import GoSem.Claim
import GoSem.ClaimJoined
import GoSem.ClaimMapViews
import Derived.JoinedTies
import Derived.KernelRfl
namespace Go.Proofs.Ytmpojphjongdcaa
/- THE CELL 'sum', in the pinned program and in every row, IS THE sha256 OF THE DUMP (.gsa) THAT YtmpojphjongdcaaProg.lean LOADS. Nothing in Lean hashes anything: it is a label: what it is worth is what the hold of that sum in a sandbox is worth. -/
noncomputable def Try.pinned : Pinned := { name := "ytmpojphjongdcaa", sum := "6f9f514a84b837d9af879b74c1aa2b9ab3226e5e31c673d3bd6b909eb4c26fd2", checked := Try.checked }
namespace Rows
def none {H : Type} : Left H := { results := [], args := [] }

/-- 'screelaw13.ArenaNew': WHATEVER THE INPUT: true; the input reads as it did. -/
def arenaNewSpec : ChangeSpec := { name := "arenaNew", fn := fun _ => fun
  | [d1, d2] => { results := [.lit (.bool true)], args := [d1, d2] }
  | _ => none }
def arenaNewRow : OpenClaim := { program := "ytmpojphjongdcaa", sum := "6f9f514a84b837d9af879b74c1aa2b9ab3226e5e31c673d3bd6b909eb4c26fd2", func := "scree/screelaw13.ArenaNew", spec := "arenaNew", apart := false }
def ArenaNewSaid : Prop := arenaNewRow.holds Try.pinned (OpenSpec.ofChange arenaNewSpec)

/-- ITS FALSE NEIGHBOUR: 'it returns false'. Refute it at one input. -/
def arenaNewWrong : ChangeSpec := { name := "arenaNew", fn := fun _ => fun
  | [d1, d2] => { results := [.lit (.bool false)], args := [d1, d2] }
  | _ => none }
def ArenaNewWrongFalsely : Prop := arenaNewRow.holds Try.pinned (OpenSpec.ofChange arenaNewWrong)

/-- 'screelaw13.ArenaAllocs': WHATEVER THE INPUT: true; the input reads as it did. -/
def arenaAllocsSpec : ChangeSpec := { name := "arenaAllocs", fn := fun _ => fun
  | [d1, d2, d3] => { results := [.lit (.bool true)], args := [d1, d2, d3] }
  | _ => none }
def arenaAllocsRow : OpenClaim := { program := "ytmpojphjongdcaa", sum := "6f9f514a84b837d9af879b74c1aa2b9ab3226e5e31c673d3bd6b909eb4c26fd2", func := "scree/screelaw13.ArenaAllocs", spec := "arenaAllocs", apart := false }
def ArenaAllocsSaid : Prop := arenaAllocsRow.holds Try.pinned (OpenSpec.ofChange arenaAllocsSpec)

/-- ITS FALSE NEIGHBOUR: 'it returns false'. Refute it at one input. -/
def arenaAllocsWrong : ChangeSpec := { name := "arenaAllocs", fn := fun _ => fun
  | [d1, d2, d3] => { results := [.lit (.bool false)], args := [d1, d2, d3] }
  | _ => none }
def ArenaAllocsWrongFalsely : Prop := arenaAllocsRow.holds Try.pinned (OpenSpec.ofChange arenaAllocsWrong)

/-- 'screelaw13.ArenaObjects': WHATEVER THE INPUT: true; the input reads as it did. -/
def arenaObjectsSpec : ChangeSpec := { name := "arenaObjects", fn := fun _ => fun
  | [d] => { results := [.lit (.bool true)], args := [d] }
  | _ => none }
def arenaObjectsRow : OpenClaim := { program := "ytmpojphjongdcaa", sum := "6f9f514a84b837d9af879b74c1aa2b9ab3226e5e31c673d3bd6b909eb4c26fd2", func := "scree/screelaw13.ArenaObjects", spec := "arenaObjects", apart := false }
def ArenaObjectsSaid : Prop := arenaObjectsRow.holds Try.pinned (OpenSpec.ofChange arenaObjectsSpec)

/-- ITS FALSE NEIGHBOUR: 'it returns false'. Refute it at one input. -/
def arenaObjectsWrong : ChangeSpec := { name := "arenaObjects", fn := fun _ => fun
  | [d] => { results := [.lit (.bool false)], args := [d] }
  | _ => none }
def ArenaObjectsWrongFalsely : Prop := arenaObjectsRow.holds Try.pinned (OpenSpec.ofChange arenaObjectsWrong)

/-- 'screelaw13.ArenaStays': WHATEVER THE INPUT: true; the input reads as it did. -/
def arenaStaysSpec : ChangeSpec := { name := "arenaStays", fn := fun _ => fun
  | [d1, d2] => { results := [.lit (.bool true)], args := [d1, d2] }
  | _ => none }
def arenaStaysRow : OpenClaim := { program := "ytmpojphjongdcaa", sum := "6f9f514a84b837d9af879b74c1aa2b9ab3226e5e31c673d3bd6b909eb4c26fd2", func := "scree/screelaw13.ArenaStays", spec := "arenaStays", apart := false }
def ArenaStaysSaid : Prop := arenaStaysRow.holds Try.pinned (OpenSpec.ofChange arenaStaysSpec)

/-- ITS FALSE NEIGHBOUR: 'it returns false'. Refute it at one input. -/
def arenaStaysWrong : ChangeSpec := { name := "arenaStays", fn := fun _ => fun
  | [d1, d2] => { results := [.lit (.bool false)], args := [d1, d2] }
  | _ => none }
def ArenaStaysWrongFalsely : Prop := arenaStaysRow.holds Try.pinned (OpenSpec.ofChange arenaStaysWrong)

/- THE SECOND FORM. 'bulk': how many values and letters a reading holds, each counted each time it is reached (what is shared counts as often as it is met; a slice's spare places count too). A statement '..UptoSaid' is the law's where the arguments, and the package variables that the reading takes, are together of bulk at most 1048576: NARROWER than '..Said'. Prove '..Said' where nothing that the law and all that it calls make is longer than what came in: it says more and counts as full. Else prove '..UptoSaid'. A law counts once. -/
mutual
def uptoBulk {H : Type} : DataW H → Nat
  | .lit (.string bytes) => bytes.length + 1
  | .lit _ => 1
  | .nil => 1
  | .ptr d => uptoBulk d + 1
  | .slice elems spare => uptoBulkAll elems + uptoBulkAll spare + 1
  | .agg parts => uptoBulkAll parts + 1
  | .iface _ d => uptoBulk d + 1
  | .map entries => uptoBulkEntries entries + 1
  | .held _ => 1
def uptoBulkAll {H : Type} : List (DataW H) → Nat
  | [] => 0
  | d :: r => uptoBulk d + uptoBulkAll r
def uptoBulkEntries {H : Type} : List (Lit × DataW H) → Nat
  | [] => 0
  | x :: r => uptoBulkEntry x + uptoBulkEntries r
def uptoBulkEntry {H : Type} : Lit × DataW H → Nat
  | (.string bytes, d) => bytes.length + uptoBulk d + 1
  | (_, d) => uptoBulk d + 1
 end
def uptoSmall : (H : Type) → List (DataW H) → Bool := fun _ ds => decide (uptoBulkAll ds ≤ 1048576)
def OpenSpec.upto (s : _root_.Go.ChangeSpec) : _root_.Go.OpenSpec := { _root_.Go.OpenSpec.ofChange s with cond := some uptoSmall }

/-- 'screelaw13.ArenaNew', WHERE WHAT IT READS IS OF BULK AT MOST 1048576: true; the input reads as it did. -/
def arenaNewUptoRow : OpenClaim := { program := "ytmpojphjongdcaa", sum := "6f9f514a84b837d9af879b74c1aa2b9ab3226e5e31c673d3bd6b909eb4c26fd2", func := "scree/screelaw13.ArenaNew", spec := "arenaNew", apart := false, narrowed := true }
def ArenaNewUptoSaid : Prop := arenaNewUptoRow.holds Try.pinned (OpenSpec.upto arenaNewSpec)

/-- 'screelaw13.ArenaAllocs', WHERE WHAT IT READS IS OF BULK AT MOST 1048576: true; the input reads as it did. -/
def arenaAllocsUptoRow : OpenClaim := { program := "ytmpojphjongdcaa", sum := "6f9f514a84b837d9af879b74c1aa2b9ab3226e5e31c673d3bd6b909eb4c26fd2", func := "scree/screelaw13.ArenaAllocs", spec := "arenaAllocs", apart := false, narrowed := true }
def ArenaAllocsUptoSaid : Prop := arenaAllocsUptoRow.holds Try.pinned (OpenSpec.upto arenaAllocsSpec)

/-- 'screelaw13.ArenaObjects', WHERE WHAT IT READS IS OF BULK AT MOST 1048576: true; the input reads as it did. -/
def arenaObjectsUptoRow : OpenClaim := { program := "ytmpojphjongdcaa", sum := "6f9f514a84b837d9af879b74c1aa2b9ab3226e5e31c673d3bd6b909eb4c26fd2", func := "scree/screelaw13.ArenaObjects", spec := "arenaObjects", apart := false, narrowed := true }
def ArenaObjectsUptoSaid : Prop := arenaObjectsUptoRow.holds Try.pinned (OpenSpec.upto arenaObjectsSpec)

/-- 'screelaw13.ArenaStays', WHERE WHAT IT READS IS OF BULK AT MOST 1048576: true; the input reads as it did. -/
def arenaStaysUptoRow : OpenClaim := { program := "ytmpojphjongdcaa", sum := "6f9f514a84b837d9af879b74c1aa2b9ab3226e5e31c673d3bd6b909eb4c26fd2", func := "scree/screelaw13.ArenaStays", spec := "arenaStays", apart := false, narrowed := true }
def ArenaStaysUptoSaid : Prop := arenaStaysUptoRow.holds Try.pinned (OpenSpec.upto arenaStaysSpec)

end Rows
end Go.Proofs.Ytmpojphjongdcaa
