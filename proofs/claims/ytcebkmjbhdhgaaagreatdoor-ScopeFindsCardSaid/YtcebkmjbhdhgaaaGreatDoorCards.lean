/-
  DERIVED. GIVEN WITH THE SEED: THE CARDS: each row of YtcebkmjbhdhgaaaGreatDoorRows.lean that lists a variable, with what it lists TIED to the program's text (the seventh form; the later family's looks); each row that meets fmt, with fmt's text TOLD by the authors' own Lean function (tested against real Go, not proved from fmt's source: count such statements apart). THE CARD IS WHAT COUNTS. Prove the row's statement (the work); the ties are given (YtcebkmjbhdhgaaaGreatDoorTie.lean); close each card by the builder's one call (the guide's Derived/Test/ToyasCard.lean, 'card_holds'). Laid BY PROGRAM, IN A SANDBOX (cutbox-door.mjs). By AI agents, Wed Nov 11 2026. No macro, syntax, notation, axiom, sorry.
-/
import Derived.Test.YtcebkmjbhdhgaaaGreatDoorRows
import GoSem.ClaimSeven
namespace Go.Proofs.YtcebkmjbhdhgaaaGreatDoor
namespace Rows

/-- THE TIED CARD OF 'screelaw07.ScopeFinds'. -/
def scopeFindsCard : Claim7 := { stood := { row := scopeFindsRow, standIns := [], harness := (true, "320df6aa520c3d7ea3390f5fb25cdef3f92853d569c1b1177f7b526948f3129d"), looks := false }, kinds := [], alts := [], laidByText := true, laidKinds := [.data, .data, .data], laidTests := true, laidLooks := .later }
def ScopeFindsCardSaid : Prop := Claim7.holds Tryz.pinned (.plain (OpenSpec.ofChange scopeFindsSpec)) scopeFindsCard

/-- THE SECOND FORM's CARD OF 'screelaw07.ScopeFinds'. -/
def scopeFindsUptoCard : Claim7 := { stood := { row := scopeFindsUptoRow, standIns := [], harness := (true, "320df6aa520c3d7ea3390f5fb25cdef3f92853d569c1b1177f7b526948f3129d"), looks := false }, kinds := [], alts := [], laidByText := true, laidKinds := [.data, .data, .data], laidTests := true, laidLooks := .later }
def ScopeFindsUptoCardSaid : Prop := Claim7.holds Tryz.pinned (.plain (OpenSpec.upto scopeFindsSpec)) scopeFindsUptoCard
end Rows
end Go.Proofs.YtcebkmjbhdhgaaaGreatDoor
