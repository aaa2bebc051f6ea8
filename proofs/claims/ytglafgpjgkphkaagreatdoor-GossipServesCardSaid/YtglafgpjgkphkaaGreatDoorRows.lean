/-
  NARROWER THAN 'FOR EVERY INPUT', by the rows' own cells (each row's printed sentence says how): GossipConserves: laid · GossipServes: laid.
  DERIVED. THE GIVEN ROWS OF THIS SEAT. 2 by the template 'for every input the law returns true; each argument reads behind the call as it read before'; 0 by the template 'total and deterministic' (their statements: YtglafgpjgkphkaaGreatDoorTotals.lean).
  GIVEN WITH THE SEED: the statements are not yours to turn. If you find one false, say at which input.
  Laid BY PROGRAM, IN A SANDBOX (cutbox-rows.mjs): the forced cells as the released guide's own fill.sh prints them over the translation 7206658b90d1fe4b… (all of the seat's roots in one cut). By AI agents, Wed Nov 11 2026. No macro, syntax, notation, axiom, sorry.
-/
import Derived.Test.YtglafgpjgkphkaaGreatDoorChecked
import GoSem.Claim
import GoSem.ClaimJoined
import GoSem.ClaimMapViews
import Derived.JoinedTies
import Derived.KernelRfl
namespace Go.Proofs.YtglafgpjgkphkaaGreatDoor
/- THE CELL 'sum', in the pinned program and in every row, IS THE sha256 OF THE DUMP (.gsa) THAT YtglafgpjgkphkaaGreatDoorProg.lean LOADS. Nothing in Lean hashes anything: it is a label: what it is worth is what the hold of that sum in a sandbox is worth. -/
noncomputable def Tryz.pinned : Pinned := { name := "ytglafgpjgkphkaagreatdoor", sum := "7206658b90d1fe4b62c93b2313c6ce7cb8a197340dd6835b4d9e27437d9f4ba6", checked := Tryz.checked }
namespace Rows
def none {H : Type} : Left H := { results := [], args := [] }

/- WHAT THE LISTED PACKAGE-LEVEL VARIABLES READ AS WHEN THE CALL BEGINS. Each datum BY PROGRAM (the guide's laid-datum.mjs) off the statement by which the dump's own 'gosem.cut.vars' lays the variable. In a bare row this is a premise. The card (YtglafgpjgkphkaaGreatDoorCards.lean) ties it to the program's text. -/
def laid_sluice_ledger_errArg {H : Type} : DataW H := .iface "*errors.errorString" (.ptr (.agg [.lit (.string [97, 32, 110, 117, 109, 98, 101, 114, 32, 116, 104, 97, 116, 32, 109, 97, 121, 32, 110, 111, 116, 32, 98, 101])]))
def laid_sluice_ledger_errRights {H : Type} : DataW H := .iface "*errors.errorString" (.ptr (.agg [.lit (.string [110, 111, 116, 32, 101, 110, 111, 117, 103, 104, 32, 114, 105, 103, 104, 116, 115])]))
def laid_sluice_ledger_errCap {H : Type} : DataW H := .iface "*errors.errorString" (.ptr (.agg [.lit (.string [109, 111, 114, 101, 32, 116, 104, 97, 110, 32, 116, 104, 101, 32, 99, 97, 112])]))

/-- 'sluicelaw12.GossipConserves': WHATEVER THE INPUT: true; the input reads as it did. -/
def gossipConservesSpec : ChangeSpec := { name := "gossipConserves", fn := fun _ => fun
  | [d1, d2, d3, d4] => { results := [.lit (.bool true)], args := [d1, d2, d3, d4] }
  | _ => none }
def gossipConservesRow : OpenClaim := { program := "ytglafgpjgkphkaagreatdoor", sum := "7206658b90d1fe4b62c93b2313c6ce7cb8a197340dd6835b4d9e27437d9f4ba6", func := "sluice/sluicelaw12.GossipConserves", spec := "gossipConserves", inPlace := ["internal/reflectlite.TypeOf"], unfollowed := true, recurses := true, named := ["sluice/ledger.errArg", "sluice/ledger.errRights", "sluice/ledger.errCap"], plainKeys := false, apart := false, laid := [("sluice/ledger.errArg", laid_sluice_ledger_errArg), ("sluice/ledger.errRights", laid_sluice_ledger_errRights), ("sluice/ledger.errCap", laid_sluice_ledger_errCap)] }
def GossipConservesSaid : Prop := gossipConservesRow.holds Tryz.pinned (OpenSpec.ofChange gossipConservesSpec)

/-- ITS FALSE NEIGHBOUR: 'it returns false'. Refute it at one input. -/
def gossipConservesWrong : ChangeSpec := { name := "gossipConserves", fn := fun _ => fun
  | [d1, d2, d3, d4] => { results := [.lit (.bool false)], args := [d1, d2, d3, d4] }
  | _ => none }
def GossipConservesWrongFalsely : Prop := gossipConservesRow.holds Tryz.pinned (OpenSpec.ofChange gossipConservesWrong)

/-- 'sluicelaw12.GossipServes': WHATEVER THE INPUT: true; the input reads as it did. -/
def gossipServesSpec : ChangeSpec := { name := "gossipServes", fn := fun _ => fun
  | [d1, d2, d3, d4] => { results := [.lit (.bool true)], args := [d1, d2, d3, d4] }
  | _ => none }
def gossipServesRow : OpenClaim := { program := "ytglafgpjgkphkaagreatdoor", sum := "7206658b90d1fe4b62c93b2313c6ce7cb8a197340dd6835b4d9e27437d9f4ba6", func := "sluice/sluicelaw12.GossipServes", spec := "gossipServes", inPlace := ["internal/reflectlite.TypeOf"], unfollowed := true, recurses := true, named := ["sluice/ledger.errArg", "sluice/ledger.errRights", "sluice/ledger.errCap"], plainKeys := false, apart := false, laid := [("sluice/ledger.errArg", laid_sluice_ledger_errArg), ("sluice/ledger.errRights", laid_sluice_ledger_errRights), ("sluice/ledger.errCap", laid_sluice_ledger_errCap)] }
def GossipServesSaid : Prop := gossipServesRow.holds Tryz.pinned (OpenSpec.ofChange gossipServesSpec)

/-- ITS FALSE NEIGHBOUR: 'it returns false'. Refute it at one input. -/
def gossipServesWrong : ChangeSpec := { name := "gossipServes", fn := fun _ => fun
  | [d1, d2, d3, d4] => { results := [.lit (.bool false)], args := [d1, d2, d3, d4] }
  | _ => none }
def GossipServesWrongFalsely : Prop := gossipServesRow.holds Tryz.pinned (OpenSpec.ofChange gossipServesWrong)

/- THE SECOND FORM. 'bulk': how many values and letters a reading holds, each counted each time it is reached (what is shared counts as often as it is met; a slice's spare places count too). A statement '..UptoSaid' is the law's where the arguments, and the package variables that the reading takes, are together of bulk at most 1048576: NARROWER than '..Said'. Prove '..Said' where nothing that the law and all that it calls make is longer than what came in: it says more and counts as full. Else prove '..UptoSaid'. A law counts once. -/
mutual
def uptoBulk {H : Type} : DataW H → Nat
  | .lit (.string bytes) => bytes.length + 1
  | .lit _ => 1
  | .nil => 1
  | .ptr d => uptoBulk d + 1
  | .slice elems spare => uptoBulkAll elems + uptoBulkAll spare + 1
  | .agg parts => uptoBulkAll parts + 1
  | .iface _ d => uptoBulk d + 1
  | .map entries => uptoBulkEntries entries + 1
  | .held _ => 1
def uptoBulkAll {H : Type} : List (DataW H) → Nat
  | [] => 0
  | d :: r => uptoBulk d + uptoBulkAll r
def uptoBulkEntries {H : Type} : List (Lit × DataW H) → Nat
  | [] => 0
  | x :: r => uptoBulkEntry x + uptoBulkEntries r
def uptoBulkEntry {H : Type} : Lit × DataW H → Nat
  | (.string bytes, d) => bytes.length + uptoBulk d + 1
  | (_, d) => uptoBulk d + 1
 end
def uptoSmall : (H : Type) → List (DataW H) → Bool := fun _ ds => decide (uptoBulkAll ds ≤ 1048576)
def OpenSpec.upto (s : _root_.Go.ChangeSpec) : _root_.Go.OpenSpec := { _root_.Go.OpenSpec.ofChange s with cond := some uptoSmall }

/-- 'sluicelaw12.GossipConserves', WHERE WHAT IT READS IS OF BULK AT MOST 1048576: true; the input reads as it did. -/
def gossipConservesUptoRow : OpenClaim := { program := "ytglafgpjgkphkaagreatdoor", sum := "7206658b90d1fe4b62c93b2313c6ce7cb8a197340dd6835b4d9e27437d9f4ba6", func := "sluice/sluicelaw12.GossipConserves", spec := "gossipConserves", inPlace := ["internal/reflectlite.TypeOf"], unfollowed := true, recurses := true, named := ["sluice/ledger.errArg", "sluice/ledger.errRights", "sluice/ledger.errCap"], plainKeys := false, apart := false, laid := [("sluice/ledger.errArg", laid_sluice_ledger_errArg), ("sluice/ledger.errRights", laid_sluice_ledger_errRights), ("sluice/ledger.errCap", laid_sluice_ledger_errCap)], narrowed := true }
def GossipConservesUptoSaid : Prop := gossipConservesUptoRow.holds Tryz.pinned (OpenSpec.upto gossipConservesSpec)

/-- 'sluicelaw12.GossipServes', WHERE WHAT IT READS IS OF BULK AT MOST 1048576: true; the input reads as it did. -/
def gossipServesUptoRow : OpenClaim := { program := "ytglafgpjgkphkaagreatdoor", sum := "7206658b90d1fe4b62c93b2313c6ce7cb8a197340dd6835b4d9e27437d9f4ba6", func := "sluice/sluicelaw12.GossipServes", spec := "gossipServes", inPlace := ["internal/reflectlite.TypeOf"], unfollowed := true, recurses := true, named := ["sluice/ledger.errArg", "sluice/ledger.errRights", "sluice/ledger.errCap"], plainKeys := false, apart := false, laid := [("sluice/ledger.errArg", laid_sluice_ledger_errArg), ("sluice/ledger.errRights", laid_sluice_ledger_errRights), ("sluice/ledger.errCap", laid_sluice_ledger_errCap)], narrowed := true }
def GossipServesUptoSaid : Prop := gossipServesUptoRow.holds Tryz.pinned (OpenSpec.upto gossipServesSpec)

end Rows
end Go.Proofs.YtglafgpjgkphkaaGreatDoor
