/-
  DERIVED. GIVEN WITH THE SEED: THE CARDS: each row of YtapiakcfjhedpaaDoorRows.lean that lists a variable, with what it lists TIED to the program's text (the seventh form; the later family's looks); each row that meets fmt, with fmt's text TOLD by the authors' own Lean function (tested against real Go, not proved from fmt's source: count such statements apart). THE CARD IS WHAT COUNTS. Prove the row's statement (the work); the ties are given (YtapiakcfjhedpaaDoorTie.lean); close each card by the builder's one call (the guide's Derived/Test/ToyasCard.lean, 'card_holds'). Laid BY PROGRAM, IN A SANDBOX (cutbox-door.mjs). By AI agents, Wed Nov 11 2026. No macro, syntax, notation, axiom, sorry.
-/
import Derived.Test.YtapiakcfjhedpaaDoorRows
import GoSem.ClaimSeven
namespace Go.Proofs.YtapiakcfjhedpaaDoor
namespace Rows

/-- THE TIED CARD OF 'sluicelaw12.GossipTicks'. -/
def gossipTicksCard : Claim7 := { stood := { row := gossipTicksRow, standIns := [], harness := (true, "19424c638b282a15539d324862da8ab83e585d8511e23196dd517dd51e10ed51"), looks := true }, kinds := [], alts := [], laidByText := true, laidKinds := [.sentinel, .sentinel, .sentinel], laidTests := true, laidLooks := .later }
def GossipTicksCardSaid : Prop := Claim7.holds Tryd.pinned (.plain (OpenSpec.ofChange gossipTicksSpec)) gossipTicksCard

/-- THE TIED CARD OF 'sluicelaw12.GossipGives'. -/
def gossipGivesCard : Claim7 := { stood := { row := gossipGivesRow, standIns := [], harness := (true, "19424c638b282a15539d324862da8ab83e585d8511e23196dd517dd51e10ed51"), looks := true }, kinds := [], alts := [], laidByText := true, laidKinds := [.sentinel, .sentinel, .sentinel], laidTests := true, laidLooks := .later }
def GossipGivesCardSaid : Prop := Claim7.holds Tryd.pinned (.plain (OpenSpec.ofChange gossipGivesSpec)) gossipGivesCard

/-- THE TIED CARD OF 'sluicelaw12.GossipAll'. -/
def gossipAllCard : Claim7 := { stood := { row := gossipAllRow, standIns := [], harness := (true, "19424c638b282a15539d324862da8ab83e585d8511e23196dd517dd51e10ed51"), looks := true }, kinds := [], alts := [], laidByText := true, laidKinds := [.sentinel, .sentinel, .sentinel], laidTests := true, laidLooks := .later }
def GossipAllCardSaid : Prop := Claim7.holds Tryd.pinned (.plain (OpenSpec.ofChange gossipAllSpec)) gossipAllCard

/-- THE TIED CARD OF 'sluicelaw12.GossipApart'. -/
def gossipApartCard : Claim7 := { stood := { row := gossipApartRow, standIns := [], harness := (true, "19424c638b282a15539d324862da8ab83e585d8511e23196dd517dd51e10ed51"), looks := true }, kinds := [], alts := [], laidByText := true, laidKinds := [.sentinel, .sentinel, .sentinel], laidTests := true, laidLooks := .later }
def GossipApartCardSaid : Prop := Claim7.holds Tryd.pinned (.plain (OpenSpec.ofChange gossipApartSpec)) gossipApartCard

/-- THE SECOND FORM's CARD OF 'sluicelaw12.GossipTicks'. -/
def gossipTicksUptoCard : Claim7 := { stood := { row := gossipTicksUptoRow, standIns := [], harness := (true, "19424c638b282a15539d324862da8ab83e585d8511e23196dd517dd51e10ed51"), looks := true }, kinds := [], alts := [], laidByText := true, laidKinds := [.sentinel, .sentinel, .sentinel], laidTests := true, laidLooks := .later }
def GossipTicksUptoCardSaid : Prop := Claim7.holds Tryd.pinned (.plain (OpenSpec.upto gossipTicksSpec)) gossipTicksUptoCard

/-- THE SECOND FORM's CARD OF 'sluicelaw12.GossipGives'. -/
def gossipGivesUptoCard : Claim7 := { stood := { row := gossipGivesUptoRow, standIns := [], harness := (true, "19424c638b282a15539d324862da8ab83e585d8511e23196dd517dd51e10ed51"), looks := true }, kinds := [], alts := [], laidByText := true, laidKinds := [.sentinel, .sentinel, .sentinel], laidTests := true, laidLooks := .later }
def GossipGivesUptoCardSaid : Prop := Claim7.holds Tryd.pinned (.plain (OpenSpec.upto gossipGivesSpec)) gossipGivesUptoCard

/-- THE SECOND FORM's CARD OF 'sluicelaw12.GossipAll'. -/
def gossipAllUptoCard : Claim7 := { stood := { row := gossipAllUptoRow, standIns := [], harness := (true, "19424c638b282a15539d324862da8ab83e585d8511e23196dd517dd51e10ed51"), looks := true }, kinds := [], alts := [], laidByText := true, laidKinds := [.sentinel, .sentinel, .sentinel], laidTests := true, laidLooks := .later }
def GossipAllUptoCardSaid : Prop := Claim7.holds Tryd.pinned (.plain (OpenSpec.upto gossipAllSpec)) gossipAllUptoCard

/-- THE SECOND FORM's CARD OF 'sluicelaw12.GossipApart'. -/
def gossipApartUptoCard : Claim7 := { stood := { row := gossipApartUptoRow, standIns := [], harness := (true, "19424c638b282a15539d324862da8ab83e585d8511e23196dd517dd51e10ed51"), looks := true }, kinds := [], alts := [], laidByText := true, laidKinds := [.sentinel, .sentinel, .sentinel], laidTests := true, laidLooks := .later }
def GossipApartUptoCardSaid : Prop := Claim7.holds Tryd.pinned (.plain (OpenSpec.upto gossipApartSpec)) gossipApartUptoCard
end Rows
end Go.Proofs.YtapiakcfjhedpaaDoor
