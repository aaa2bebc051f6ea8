/-
  DERIVED. GIVEN WITH THE SEED: THE CARDS: each row of YtglafgpjgkphkaaGreatDoorRows.lean that lists a variable, with what it lists TIED to the program's text (the seventh form; the later family's looks); each row that meets fmt, with fmt's text TOLD by the authors' own Lean function (tested against real Go, not proved from fmt's source: count such statements apart). THE CARD IS WHAT COUNTS. Prove the row's statement (the work); the ties are given (YtglafgpjgkphkaaGreatDoorTie.lean); close each card by the builder's one call (the guide's Derived/Test/ToyasCard.lean, 'card_holds'). Laid BY PROGRAM, IN A SANDBOX (cutbox-door.mjs). By AI agents, Wed Nov 11 2026. No macro, syntax, notation, axiom, sorry.
-/
import Derived.Test.YtglafgpjgkphkaaGreatDoorRows
import GoSem.ClaimSeven
namespace Go.Proofs.YtglafgpjgkphkaaGreatDoor
namespace Rows

/-- THE TIED CARD OF 'sluicelaw12.GossipConserves'. -/
def gossipConservesCard : Claim7 := { stood := { row := gossipConservesRow, standIns := [], harness := (true, "6b920c3b6f3e99789b12e5f119d5399c47296af1718b9a1f5703b18f4327cfdb"), looks := true }, kinds := [], alts := [], laidByText := true, laidKinds := [.sentinel, .sentinel, .sentinel], laidTests := true, laidLooks := .later }
def GossipConservesCardSaid : Prop := Claim7.holds Tryz.pinned (.plain (OpenSpec.ofChange gossipConservesSpec)) gossipConservesCard

/-- THE TIED CARD OF 'sluicelaw12.GossipServes'. -/
def gossipServesCard : Claim7 := { stood := { row := gossipServesRow, standIns := [], harness := (true, "6b920c3b6f3e99789b12e5f119d5399c47296af1718b9a1f5703b18f4327cfdb"), looks := true }, kinds := [], alts := [], laidByText := true, laidKinds := [.sentinel, .sentinel, .sentinel], laidTests := true, laidLooks := .later }
def GossipServesCardSaid : Prop := Claim7.holds Tryz.pinned (.plain (OpenSpec.ofChange gossipServesSpec)) gossipServesCard

/-- THE SECOND FORM's CARD OF 'sluicelaw12.GossipConserves'. -/
def gossipConservesUptoCard : Claim7 := { stood := { row := gossipConservesUptoRow, standIns := [], harness := (true, "6b920c3b6f3e99789b12e5f119d5399c47296af1718b9a1f5703b18f4327cfdb"), looks := true }, kinds := [], alts := [], laidByText := true, laidKinds := [.sentinel, .sentinel, .sentinel], laidTests := true, laidLooks := .later }
def GossipConservesUptoCardSaid : Prop := Claim7.holds Tryz.pinned (.plain (OpenSpec.upto gossipConservesSpec)) gossipConservesUptoCard

/-- THE SECOND FORM's CARD OF 'sluicelaw12.GossipServes'. -/
def gossipServesUptoCard : Claim7 := { stood := { row := gossipServesUptoRow, standIns := [], harness := (true, "6b920c3b6f3e99789b12e5f119d5399c47296af1718b9a1f5703b18f4327cfdb"), looks := true }, kinds := [], alts := [], laidByText := true, laidKinds := [.sentinel, .sentinel, .sentinel], laidTests := true, laidLooks := .later }
def GossipServesUptoCardSaid : Prop := Claim7.holds Tryz.pinned (.plain (OpenSpec.upto gossipServesSpec)) gossipServesUptoCard
end Rows
end Go.Proofs.YtglafgpjgkphkaaGreatDoor
