/-
  No cell of these rows narrows 'for every input' (looked for: loops, veiled, ifaces, maps, wideKeys, modest, calm, conditions, laid).
  DERIVED. THE GIVEN ROWS OF THIS SEAT. 6 by the template 'for every input the law returns true; each argument reads behind the call as it read before'; 0 by the template 'total and deterministic' (their statements: YtmglmoehlegojaaTotals.lean).
  GIVEN WITH THE SEED: the statements are not yours to turn. If you find one false, say at which input.
  Laid BY PROGRAM, IN A SANDBOX (cutbox-rows.mjs): the forced cells as the released guide's own fill.sh prints them over the translation 38ff8c740890c38c… (all of the seat's roots in one cut). By AI agents, Wed Nov 11 2026. No macro, syntax, notation, axiom, sorry.
-/
import Derived.Test.YtmglmoehlegojaaChecked
import GoSem.Claim
import GoSem.ClaimJoined
import GoSem.ClaimMapViews
import Derived.JoinedTies
import Derived.KernelRfl
namespace Go.Proofs.Ytmglmoehlegojaa
/- THE CELL 'sum', in the pinned program and in every row, IS THE sha256 OF THE DUMP (.gsa) THAT YtmglmoehlegojaaProg.lean LOADS. Nothing in Lean hashes anything: it is a label: what it is worth is what the hold of that sum in a sandbox is worth. -/
noncomputable def Try.pinned : Pinned := { name := "ytmglmoehlegojaa", sum := "38ff8c740890c38cdbb70998ec238d0d4195a2dda3365cc498c8c9e0229a457c", checked := Try.checked }
namespace Rows
def none {H : Type} : Left H := { results := [], args := [] }

/-- 'screelaw04.LexTokens': WHATEVER THE INPUT: true; the input reads as it did. -/
def lexTokensSpec : ChangeSpec := { name := "lexTokens", fn := fun _ => fun
  | [d] => { results := [.lit (.bool true)], args := [d] }
  | _ => none }
def lexTokensRow : OpenClaim := { program := "ytmglmoehlegojaa", sum := "38ff8c740890c38cdbb70998ec238d0d4195a2dda3365cc498c8c9e0229a457c", func := "scree/screelaw04.LexTokens", spec := "lexTokens", inPlace := ["internal/bytealg.IndexByteString", "internal/bytealg.IndexString"], named := ["internal/bytealg.MaxLen"], apart := false }
def LexTokensSaid : Prop := lexTokensRow.holds Try.pinned (OpenSpec.ofChange lexTokensSpec)

/-- ITS FALSE NEIGHBOUR: 'it returns false'. Refute it at one input. -/
def lexTokensWrong : ChangeSpec := { name := "lexTokens", fn := fun _ => fun
  | [d] => { results := [.lit (.bool false)], args := [d] }
  | _ => none }
def LexTokensWrongFalsely : Prop := lexTokensRow.holds Try.pinned (OpenSpec.ofChange lexTokensWrong)

/-- 'screelaw04.LexBlocks': WHATEVER THE INPUT: true; the input reads as it did. -/
def lexBlocksSpec : ChangeSpec := { name := "lexBlocks", fn := fun _ => fun
  | [d] => { results := [.lit (.bool true)], args := [d] }
  | _ => none }
def lexBlocksRow : OpenClaim := { program := "ytmglmoehlegojaa", sum := "38ff8c740890c38cdbb70998ec238d0d4195a2dda3365cc498c8c9e0229a457c", func := "scree/screelaw04.LexBlocks", spec := "lexBlocks", inPlace := ["internal/bytealg.IndexByteString", "internal/bytealg.IndexString"], named := ["internal/bytealg.MaxLen"], apart := false }
def LexBlocksSaid : Prop := lexBlocksRow.holds Try.pinned (OpenSpec.ofChange lexBlocksSpec)

/-- ITS FALSE NEIGHBOUR: 'it returns false'. Refute it at one input. -/
def lexBlocksWrong : ChangeSpec := { name := "lexBlocks", fn := fun _ => fun
  | [d] => { results := [.lit (.bool false)], args := [d] }
  | _ => none }
def LexBlocksWrongFalsely : Prop := lexBlocksRow.holds Try.pinned (OpenSpec.ofChange lexBlocksWrong)

/-- 'screelaw04.LexQuiet': WHATEVER THE INPUT: true; the input reads as it did. -/
def lexQuietSpec : ChangeSpec := { name := "lexQuiet", fn := fun _ => fun
  | [d1, d2] => { results := [.lit (.bool true)], args := [d1, d2] }
  | _ => none }
def lexQuietRow : OpenClaim := { program := "ytmglmoehlegojaa", sum := "38ff8c740890c38cdbb70998ec238d0d4195a2dda3365cc498c8c9e0229a457c", func := "scree/screelaw04.LexQuiet", spec := "lexQuiet", inPlace := ["internal/bytealg.IndexByteString", "internal/bytealg.IndexString"], named := ["internal/bytealg.MaxLen"], apart := false }
def LexQuietSaid : Prop := lexQuietRow.holds Try.pinned (OpenSpec.ofChange lexQuietSpec)

/-- ITS FALSE NEIGHBOUR: 'it returns false'. Refute it at one input. -/
def lexQuietWrong : ChangeSpec := { name := "lexQuiet", fn := fun _ => fun
  | [d1, d2] => { results := [.lit (.bool false)], args := [d1, d2] }
  | _ => none }
def LexQuietWrongFalsely : Prop := lexQuietRow.holds Try.pinned (OpenSpec.ofChange lexQuietWrong)

/-- 'screelaw04.LexJoins': WHATEVER THE INPUT: true; the input reads as it did. -/
def lexJoinsSpec : ChangeSpec := { name := "lexJoins", fn := fun _ => fun
  | [d1, d2] => { results := [.lit (.bool true)], args := [d1, d2] }
  | _ => none }
def lexJoinsRow : OpenClaim := { program := "ytmglmoehlegojaa", sum := "38ff8c740890c38cdbb70998ec238d0d4195a2dda3365cc498c8c9e0229a457c", func := "scree/screelaw04.LexJoins", spec := "lexJoins", inPlace := ["internal/bytealg.IndexByteString", "internal/bytealg.IndexString"], named := ["internal/bytealg.MaxLen"], apart := false }
def LexJoinsSaid : Prop := lexJoinsRow.holds Try.pinned (OpenSpec.ofChange lexJoinsSpec)

/-- ITS FALSE NEIGHBOUR: 'it returns false'. Refute it at one input. -/
def lexJoinsWrong : ChangeSpec := { name := "lexJoins", fn := fun _ => fun
  | [d1, d2] => { results := [.lit (.bool false)], args := [d1, d2] }
  | _ => none }
def LexJoinsWrongFalsely : Prop := lexJoinsRow.holds Try.pinned (OpenSpec.ofChange lexJoinsWrong)

/-- 'screelaw04.LexSpaces': WHATEVER THE INPUT: true; the input reads as it did. -/
def lexSpacesSpec : ChangeSpec := { name := "lexSpaces", fn := fun _ => fun
  | [d] => { results := [.lit (.bool true)], args := [d] }
  | _ => none }
def lexSpacesRow : OpenClaim := { program := "ytmglmoehlegojaa", sum := "38ff8c740890c38cdbb70998ec238d0d4195a2dda3365cc498c8c9e0229a457c", func := "scree/screelaw04.LexSpaces", spec := "lexSpaces", inPlace := ["internal/bytealg.IndexByteString", "internal/bytealg.IndexString"], named := ["internal/bytealg.MaxLen"], apart := false }
def LexSpacesSaid : Prop := lexSpacesRow.holds Try.pinned (OpenSpec.ofChange lexSpacesSpec)

/-- ITS FALSE NEIGHBOUR: 'it returns false'. Refute it at one input. -/
def lexSpacesWrong : ChangeSpec := { name := "lexSpaces", fn := fun _ => fun
  | [d] => { results := [.lit (.bool false)], args := [d] }
  | _ => none }
def LexSpacesWrongFalsely : Prop := lexSpacesRow.holds Try.pinned (OpenSpec.ofChange lexSpacesWrong)

/-- 'screelaw04.LexKeeps': WHATEVER THE INPUT: true; the input reads as it did. -/
def lexKeepsSpec : ChangeSpec := { name := "lexKeeps", fn := fun _ => fun
  | [d1, d2] => { results := [.lit (.bool true)], args := [d1, d2] }
  | _ => none }
def lexKeepsRow : OpenClaim := { program := "ytmglmoehlegojaa", sum := "38ff8c740890c38cdbb70998ec238d0d4195a2dda3365cc498c8c9e0229a457c", func := "scree/screelaw04.LexKeeps", spec := "lexKeeps", inPlace := ["internal/bytealg.IndexByteString", "internal/bytealg.IndexString"], named := ["internal/bytealg.MaxLen"], apart := false }
def LexKeepsSaid : Prop := lexKeepsRow.holds Try.pinned (OpenSpec.ofChange lexKeepsSpec)

/-- ITS FALSE NEIGHBOUR: 'it returns false'. Refute it at one input. -/
def lexKeepsWrong : ChangeSpec := { name := "lexKeeps", fn := fun _ => fun
  | [d1, d2] => { results := [.lit (.bool false)], args := [d1, d2] }
  | _ => none }
def LexKeepsWrongFalsely : Prop := lexKeepsRow.holds Try.pinned (OpenSpec.ofChange lexKeepsWrong)

/- THE SECOND FORM. 'bulk': how many values and letters a reading holds, each counted each time it is reached (what is shared counts as often as it is met; a slice's spare places count too). A statement '..UptoSaid' is the law's where the arguments, and the package variables that the reading takes, are together of bulk at most 1048576: NARROWER than '..Said'. Prove '..Said' where nothing that the law and all that it calls make is longer than what came in: it says more and counts as full. Else prove '..UptoSaid'. A law counts once. -/
mutual
def uptoBulk {H : Type} : DataW H → Nat
  | .lit (.string bytes) => bytes.length + 1
  | .lit _ => 1
  | .nil => 1
  | .ptr d => uptoBulk d + 1
  | .slice elems spare => uptoBulkAll elems + uptoBulkAll spare + 1
  | .agg parts => uptoBulkAll parts + 1
  | .iface _ d => uptoBulk d + 1
  | .map entries => uptoBulkEntries entries + 1
  | .held _ => 1
def uptoBulkAll {H : Type} : List (DataW H) → Nat
  | [] => 0
  | d :: r => uptoBulk d + uptoBulkAll r
def uptoBulkEntries {H : Type} : List (Lit × DataW H) → Nat
  | [] => 0
  | x :: r => uptoBulkEntry x + uptoBulkEntries r
def uptoBulkEntry {H : Type} : Lit × DataW H → Nat
  | (.string bytes, d) => bytes.length + uptoBulk d + 1
  | (_, d) => uptoBulk d + 1
 end
def uptoSmall : (H : Type) → List (DataW H) → Bool := fun _ ds => decide (uptoBulkAll ds ≤ 1048576)
def OpenSpec.upto (s : _root_.Go.ChangeSpec) : _root_.Go.OpenSpec := { _root_.Go.OpenSpec.ofChange s with cond := some uptoSmall }

/-- 'screelaw04.LexTokens', WHERE WHAT IT READS IS OF BULK AT MOST 1048576: true; the input reads as it did. -/
def lexTokensUptoRow : OpenClaim := { program := "ytmglmoehlegojaa", sum := "38ff8c740890c38cdbb70998ec238d0d4195a2dda3365cc498c8c9e0229a457c", func := "scree/screelaw04.LexTokens", spec := "lexTokens", inPlace := ["internal/bytealg.IndexByteString", "internal/bytealg.IndexString"], named := ["internal/bytealg.MaxLen"], apart := false, narrowed := true }
def LexTokensUptoSaid : Prop := lexTokensUptoRow.holds Try.pinned (OpenSpec.upto lexTokensSpec)

/-- 'screelaw04.LexBlocks', WHERE WHAT IT READS IS OF BULK AT MOST 1048576: true; the input reads as it did. -/
def lexBlocksUptoRow : OpenClaim := { program := "ytmglmoehlegojaa", sum := "38ff8c740890c38cdbb70998ec238d0d4195a2dda3365cc498c8c9e0229a457c", func := "scree/screelaw04.LexBlocks", spec := "lexBlocks", inPlace := ["internal/bytealg.IndexByteString", "internal/bytealg.IndexString"], named := ["internal/bytealg.MaxLen"], apart := false, narrowed := true }
def LexBlocksUptoSaid : Prop := lexBlocksUptoRow.holds Try.pinned (OpenSpec.upto lexBlocksSpec)

/-- 'screelaw04.LexQuiet', WHERE WHAT IT READS IS OF BULK AT MOST 1048576: true; the input reads as it did. -/
def lexQuietUptoRow : OpenClaim := { program := "ytmglmoehlegojaa", sum := "38ff8c740890c38cdbb70998ec238d0d4195a2dda3365cc498c8c9e0229a457c", func := "scree/screelaw04.LexQuiet", spec := "lexQuiet", inPlace := ["internal/bytealg.IndexByteString", "internal/bytealg.IndexString"], named := ["internal/bytealg.MaxLen"], apart := false, narrowed := true }
def LexQuietUptoSaid : Prop := lexQuietUptoRow.holds Try.pinned (OpenSpec.upto lexQuietSpec)

/-- 'screelaw04.LexJoins', WHERE WHAT IT READS IS OF BULK AT MOST 1048576: true; the input reads as it did. -/
def lexJoinsUptoRow : OpenClaim := { program := "ytmglmoehlegojaa", sum := "38ff8c740890c38cdbb70998ec238d0d4195a2dda3365cc498c8c9e0229a457c", func := "scree/screelaw04.LexJoins", spec := "lexJoins", inPlace := ["internal/bytealg.IndexByteString", "internal/bytealg.IndexString"], named := ["internal/bytealg.MaxLen"], apart := false, narrowed := true }
def LexJoinsUptoSaid : Prop := lexJoinsUptoRow.holds Try.pinned (OpenSpec.upto lexJoinsSpec)

/-- 'screelaw04.LexSpaces', WHERE WHAT IT READS IS OF BULK AT MOST 1048576: true; the input reads as it did. -/
def lexSpacesUptoRow : OpenClaim := { program := "ytmglmoehlegojaa", sum := "38ff8c740890c38cdbb70998ec238d0d4195a2dda3365cc498c8c9e0229a457c", func := "scree/screelaw04.LexSpaces", spec := "lexSpaces", inPlace := ["internal/bytealg.IndexByteString", "internal/bytealg.IndexString"], named := ["internal/bytealg.MaxLen"], apart := false, narrowed := true }
def LexSpacesUptoSaid : Prop := lexSpacesUptoRow.holds Try.pinned (OpenSpec.upto lexSpacesSpec)

/-- 'screelaw04.LexKeeps', WHERE WHAT IT READS IS OF BULK AT MOST 1048576: true; the input reads as it did. -/
def lexKeepsUptoRow : OpenClaim := { program := "ytmglmoehlegojaa", sum := "38ff8c740890c38cdbb70998ec238d0d4195a2dda3365cc498c8c9e0229a457c", func := "scree/screelaw04.LexKeeps", spec := "lexKeeps", inPlace := ["internal/bytealg.IndexByteString", "internal/bytealg.IndexString"], named := ["internal/bytealg.MaxLen"], apart := false, narrowed := true }
def LexKeepsUptoSaid : Prop := lexKeepsUptoRow.holds Try.pinned (OpenSpec.upto lexKeepsSpec)

end Rows
end Go.Proofs.Ytmglmoehlegojaa
