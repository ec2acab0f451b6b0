/-
  DERIVED. GIVEN WITH THE SEED: THE CARDS: each row of YticlaccbodpkeaaGreatDoorRows.lean that lists a variable, with what it lists TIED to the program's text (the seventh form; the later family's looks); each row that meets fmt, with fmt's text TOLD by the authors' own Lean function (tested against real Go, not proved from fmt's source: count such statements apart). THE CARD IS WHAT COUNTS. Prove the row's statement (the work); the ties are given (YticlaccbodpkeaaGreatDoorTie.lean); close each card by the builder's one call (the guide's Derived/Test/ToyasCard.lean, 'card_holds'). Laid BY PROGRAM, IN A SANDBOX (cutbox-door.mjs). By AI agents, Wed Nov 11 2026. No macro, syntax, notation, axiom, sorry.
-/
import Derived.Test.YticlaccbodpkeaaGreatDoorRows
import GoSem.ClaimSeven
namespace Go.Proofs.YticlaccbodpkeaaGreatDoor
namespace Rows

/-- THE TIED CARD OF 'screelaw07.ScopeRenames'. -/
def scopeRenamesCard : Claim7 := { stood := { row := scopeRenamesRow, standIns := [], harness := (true, "99c07886b38e6b989f99f7b5b68125af9bedbde582701252a4ade810873a0eff"), looks := true }, kinds := [], alts := [], laidByText := true, laidKinds := [.data, .data, .data], laidTests := true, laidLooks := .later }
def ScopeRenamesCardSaid : Prop := Claim7.holds Tryz.pinned (.plain (OpenSpec.ofChange scopeRenamesSpec)) scopeRenamesCard

/-- THE TIED CARD OF 'screelaw07.ScopeKeeps'. -/
def scopeKeepsCard : Claim7 := { stood := { row := scopeKeepsRow, standIns := [], harness := (true, "99c07886b38e6b989f99f7b5b68125af9bedbde582701252a4ade810873a0eff"), looks := true }, kinds := [], alts := [], laidByText := true, laidKinds := [.data, .data, .data], laidTests := true, laidLooks := .later }
def ScopeKeepsCardSaid : Prop := Claim7.holds Tryz.pinned (.plain (OpenSpec.ofChange scopeKeepsSpec)) scopeKeepsCard

/-- THE TIED CARD OF 'screelaw07.ScopeAgain'. -/
def scopeAgainCard : Claim7 := { stood := { row := scopeAgainRow, standIns := [], harness := (true, "99c07886b38e6b989f99f7b5b68125af9bedbde582701252a4ade810873a0eff"), looks := true }, kinds := [], alts := [], laidByText := true, laidKinds := [.data, .data, .data], laidTests := true, laidLooks := .later }
def ScopeAgainCardSaid : Prop := Claim7.holds Tryz.pinned (.plain (OpenSpec.ofChange scopeAgainSpec)) scopeAgainCard

/-- THE TIED CARD OF 'screelaw07.ScopeClosed'. -/
def scopeClosedCard : Claim7 := { stood := { row := scopeClosedRow, standIns := [], harness := (true, "99c07886b38e6b989f99f7b5b68125af9bedbde582701252a4ade810873a0eff"), looks := true }, kinds := [], alts := [], laidByText := true, laidKinds := [.data, .data, .data], laidTests := true, laidLooks := .later }
def ScopeClosedCardSaid : Prop := Claim7.holds Tryz.pinned (.plain (OpenSpec.ofChange scopeClosedSpec)) scopeClosedCard

/-- THE SECOND FORM's CARD OF 'screelaw07.ScopeRenames'. -/
def scopeRenamesUptoCard : Claim7 := { stood := { row := scopeRenamesUptoRow, standIns := [], harness := (true, "99c07886b38e6b989f99f7b5b68125af9bedbde582701252a4ade810873a0eff"), looks := true }, kinds := [], alts := [], laidByText := true, laidKinds := [.data, .data, .data], laidTests := true, laidLooks := .later }
def ScopeRenamesUptoCardSaid : Prop := Claim7.holds Tryz.pinned (.plain (OpenSpec.upto scopeRenamesSpec)) scopeRenamesUptoCard

/-- THE SECOND FORM's CARD OF 'screelaw07.ScopeKeeps'. -/
def scopeKeepsUptoCard : Claim7 := { stood := { row := scopeKeepsUptoRow, standIns := [], harness := (true, "99c07886b38e6b989f99f7b5b68125af9bedbde582701252a4ade810873a0eff"), looks := true }, kinds := [], alts := [], laidByText := true, laidKinds := [.data, .data, .data], laidTests := true, laidLooks := .later }
def ScopeKeepsUptoCardSaid : Prop := Claim7.holds Tryz.pinned (.plain (OpenSpec.upto scopeKeepsSpec)) scopeKeepsUptoCard

/-- THE SECOND FORM's CARD OF 'screelaw07.ScopeAgain'. -/
def scopeAgainUptoCard : Claim7 := { stood := { row := scopeAgainUptoRow, standIns := [], harness := (true, "99c07886b38e6b989f99f7b5b68125af9bedbde582701252a4ade810873a0eff"), looks := true }, kinds := [], alts := [], laidByText := true, laidKinds := [.data, .data, .data], laidTests := true, laidLooks := .later }
def ScopeAgainUptoCardSaid : Prop := Claim7.holds Tryz.pinned (.plain (OpenSpec.upto scopeAgainSpec)) scopeAgainUptoCard

/-- THE SECOND FORM's CARD OF 'screelaw07.ScopeClosed'. -/
def scopeClosedUptoCard : Claim7 := { stood := { row := scopeClosedUptoRow, standIns := [], harness := (true, "99c07886b38e6b989f99f7b5b68125af9bedbde582701252a4ade810873a0eff"), looks := true }, kinds := [], alts := [], laidByText := true, laidKinds := [.data, .data, .data], laidTests := true, laidLooks := .later }
def ScopeClosedUptoCardSaid : Prop := Claim7.holds Tryz.pinned (.plain (OpenSpec.upto scopeClosedSpec)) scopeClosedUptoCard
end Rows
end Go.Proofs.YticlaccbodpkeaaGreatDoor
