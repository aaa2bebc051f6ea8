/-
  DERIVED. GIVEN WITH THE SEED: THE CARDS: each row of YthinmbcedgoglaaDoorRows.lean that lists a variable, with what it lists TIED to the program's text (the seventh form; the later family's looks); each row that meets fmt, with fmt's text TOLD by the authors' own Lean function (tested against real Go, not proved from fmt's source: count such statements apart). THE CARD IS WHAT COUNTS. Prove the row's statement (the work); the ties are given (YthinmbcedgoglaaDoorTie.lean); close each card by the builder's one call (the guide's Derived/Test/ToyasCard.lean, 'card_holds'). Laid BY PROGRAM, IN A SANDBOX (cutbox-door.mjs). By AI agents, Wed Nov 11 2026. No macro, syntax, notation, axiom, sorry.
-/
import Derived.Test.YthinmbcedgoglaaDoorRows
import GoSem.ClaimSeven
namespace Go.Proofs.YthinmbcedgoglaaDoor
namespace Rows

/-- THE TIED CARD OF 'sluicelaw6.LedgerBack'. -/
def ledgerBackCard : Claim7 := { stood := { row := ledgerBackRow, standIns := [], harness := (true, "87052e04b5f9ac55e4bf3fc3753b676d3360ba6e459eda4c27ce7f99a78fde75"), looks := true }, kinds := [], alts := [], laidByText := true, laidKinds := [.sentinel, .sentinel, .sentinel], laidTests := true, laidLooks := .later }
def LedgerBackCardSaid : Prop := Claim7.holds Tryd.pinned (.plain (OpenSpec.ofChange ledgerBackSpec)) ledgerBackCard

/-- THE TIED CARD OF 'sluicelaw6.LedgerConserves'. -/
def ledgerConservesCard : Claim7 := { stood := { row := ledgerConservesRow, standIns := [], harness := (true, "87052e04b5f9ac55e4bf3fc3753b676d3360ba6e459eda4c27ce7f99a78fde75"), looks := true }, kinds := [], alts := [], laidByText := true, laidKinds := [.sentinel, .sentinel, .sentinel], laidTests := true, laidLooks := .later }
def LedgerConservesCardSaid : Prop := Claim7.holds Tryd.pinned (.plain (OpenSpec.ofChange ledgerConservesSpec)) ledgerConservesCard

/-- THE TIED CARD OF 'sluicelaw6.LedgerTurns'. -/
def ledgerTurnsCard : Claim7 := { stood := { row := ledgerTurnsRow, standIns := [], harness := (true, "87052e04b5f9ac55e4bf3fc3753b676d3360ba6e459eda4c27ce7f99a78fde75"), looks := true }, kinds := [], alts := [], laidByText := true, laidKinds := [.sentinel, .sentinel, .sentinel], laidTests := true, laidLooks := .later }
def LedgerTurnsCardSaid : Prop := Claim7.holds Tryd.pinned (.plain (OpenSpec.ofChange ledgerTurnsSpec)) ledgerTurnsCard

/-- THE TIED CARD OF 'sluicelaw6.LedgerMoves'. -/
def ledgerMovesCard : Claim7 := { stood := { row := ledgerMovesRow, standIns := [], harness := (true, "87052e04b5f9ac55e4bf3fc3753b676d3360ba6e459eda4c27ce7f99a78fde75"), looks := true }, kinds := [], alts := [], laidByText := true, laidKinds := [.sentinel, .sentinel, .sentinel], laidTests := true, laidLooks := .later }
def LedgerMovesCardSaid : Prop := Claim7.holds Tryd.pinned (.plain (OpenSpec.ofChange ledgerMovesSpec)) ledgerMovesCard

/-- THE TIED CARD OF 'sluicelaw6.LedgerCaps'. -/
def ledgerCapsCard : Claim7 := { stood := { row := ledgerCapsRow, standIns := [], harness := (true, "87052e04b5f9ac55e4bf3fc3753b676d3360ba6e459eda4c27ce7f99a78fde75"), looks := true }, kinds := [], alts := [], laidByText := true, laidKinds := [.sentinel, .sentinel, .sentinel], laidTests := true, laidLooks := .later }
def LedgerCapsCardSaid : Prop := Claim7.holds Tryd.pinned (.plain (OpenSpec.ofChange ledgerCapsSpec)) ledgerCapsCard

/-- THE TIED CARD OF 'sluicelaw6.LedgerAll'. -/
def ledgerAllCard : Claim7 := { stood := { row := ledgerAllRow, standIns := [], harness := (true, "87052e04b5f9ac55e4bf3fc3753b676d3360ba6e459eda4c27ce7f99a78fde75"), looks := true }, kinds := [], alts := [], laidByText := true, laidKinds := [.sentinel, .sentinel, .sentinel], laidTests := true, laidLooks := .later }
def LedgerAllCardSaid : Prop := Claim7.holds Tryd.pinned (.plain (OpenSpec.ofChange ledgerAllSpec)) ledgerAllCard

/-- THE TIED CARD OF 'sluicelaw6.LedgerSound'. -/
def ledgerSoundCard : Claim7 := { stood := { row := ledgerSoundRow, standIns := [], harness := (true, "87052e04b5f9ac55e4bf3fc3753b676d3360ba6e459eda4c27ce7f99a78fde75"), looks := true }, kinds := [], alts := [], laidByText := true, laidKinds := [.sentinel, .sentinel, .sentinel], laidTests := true, laidLooks := .later }
def LedgerSoundCardSaid : Prop := Claim7.holds Tryd.pinned (.plain (OpenSpec.ofChange ledgerSoundSpec)) ledgerSoundCard

/-- THE SECOND FORM's CARD OF 'sluicelaw6.LedgerBack'. -/
def ledgerBackUptoCard : Claim7 := { stood := { row := ledgerBackUptoRow, standIns := [], harness := (true, "87052e04b5f9ac55e4bf3fc3753b676d3360ba6e459eda4c27ce7f99a78fde75"), looks := true }, kinds := [], alts := [], laidByText := true, laidKinds := [.sentinel, .sentinel, .sentinel], laidTests := true, laidLooks := .later }
def LedgerBackUptoCardSaid : Prop := Claim7.holds Tryd.pinned (.plain (OpenSpec.upto ledgerBackSpec)) ledgerBackUptoCard

/-- THE SECOND FORM's CARD OF 'sluicelaw6.LedgerConserves'. -/
def ledgerConservesUptoCard : Claim7 := { stood := { row := ledgerConservesUptoRow, standIns := [], harness := (true, "87052e04b5f9ac55e4bf3fc3753b676d3360ba6e459eda4c27ce7f99a78fde75"), looks := true }, kinds := [], alts := [], laidByText := true, laidKinds := [.sentinel, .sentinel, .sentinel], laidTests := true, laidLooks := .later }
def LedgerConservesUptoCardSaid : Prop := Claim7.holds Tryd.pinned (.plain (OpenSpec.upto ledgerConservesSpec)) ledgerConservesUptoCard

/-- THE SECOND FORM's CARD OF 'sluicelaw6.LedgerTurns'. -/
def ledgerTurnsUptoCard : Claim7 := { stood := { row := ledgerTurnsUptoRow, standIns := [], harness := (true, "87052e04b5f9ac55e4bf3fc3753b676d3360ba6e459eda4c27ce7f99a78fde75"), looks := true }, kinds := [], alts := [], laidByText := true, laidKinds := [.sentinel, .sentinel, .sentinel], laidTests := true, laidLooks := .later }
def LedgerTurnsUptoCardSaid : Prop := Claim7.holds Tryd.pinned (.plain (OpenSpec.upto ledgerTurnsSpec)) ledgerTurnsUptoCard

/-- THE SECOND FORM's CARD OF 'sluicelaw6.LedgerMoves'. -/
def ledgerMovesUptoCard : Claim7 := { stood := { row := ledgerMovesUptoRow, standIns := [], harness := (true, "87052e04b5f9ac55e4bf3fc3753b676d3360ba6e459eda4c27ce7f99a78fde75"), looks := true }, kinds := [], alts := [], laidByText := true, laidKinds := [.sentinel, .sentinel, .sentinel], laidTests := true, laidLooks := .later }
def LedgerMovesUptoCardSaid : Prop := Claim7.holds Tryd.pinned (.plain (OpenSpec.upto ledgerMovesSpec)) ledgerMovesUptoCard

/-- THE SECOND FORM's CARD OF 'sluicelaw6.LedgerCaps'. -/
def ledgerCapsUptoCard : Claim7 := { stood := { row := ledgerCapsUptoRow, standIns := [], harness := (true, "87052e04b5f9ac55e4bf3fc3753b676d3360ba6e459eda4c27ce7f99a78fde75"), looks := true }, kinds := [], alts := [], laidByText := true, laidKinds := [.sentinel, .sentinel, .sentinel], laidTests := true, laidLooks := .later }
def LedgerCapsUptoCardSaid : Prop := Claim7.holds Tryd.pinned (.plain (OpenSpec.upto ledgerCapsSpec)) ledgerCapsUptoCard

/-- THE SECOND FORM's CARD OF 'sluicelaw6.LedgerAll'. -/
def ledgerAllUptoCard : Claim7 := { stood := { row := ledgerAllUptoRow, standIns := [], harness := (true, "87052e04b5f9ac55e4bf3fc3753b676d3360ba6e459eda4c27ce7f99a78fde75"), looks := true }, kinds := [], alts := [], laidByText := true, laidKinds := [.sentinel, .sentinel, .sentinel], laidTests := true, laidLooks := .later }
def LedgerAllUptoCardSaid : Prop := Claim7.holds Tryd.pinned (.plain (OpenSpec.upto ledgerAllSpec)) ledgerAllUptoCard

/-- THE SECOND FORM's CARD OF 'sluicelaw6.LedgerSound'. -/
def ledgerSoundUptoCard : Claim7 := { stood := { row := ledgerSoundUptoRow, standIns := [], harness := (true, "87052e04b5f9ac55e4bf3fc3753b676d3360ba6e459eda4c27ce7f99a78fde75"), looks := true }, kinds := [], alts := [], laidByText := true, laidKinds := [.sentinel, .sentinel, .sentinel], laidTests := true, laidLooks := .later }
def LedgerSoundUptoCardSaid : Prop := Claim7.holds Tryd.pinned (.plain (OpenSpec.upto ledgerSoundSpec)) ledgerSoundUptoCard
end Rows
end Go.Proofs.YthinmbcedgoglaaDoor
