/-
  NARROWER THAN 'FOR EVERY INPUT', by the rows' own cells (each row's printed sentence says how): LedgerBack: laid · LedgerConserves: laid · LedgerTurns: laid · LedgerMoves: laid · LedgerCaps: laid · LedgerAll: laid · LedgerSound: laid.
  DERIVED. THE GIVEN ROWS OF THIS SEAT. 7 by the template 'for every input the law returns true; each argument reads behind the call as it read before'; 0 by the template 'total and deterministic' (their statements: YthinmbcedgoglaaDoorTotals.lean).
  GIVEN WITH THE SEED: the statements are not yours to turn. If you find one false, say at which input.
  Laid BY PROGRAM, IN A SANDBOX (cutbox-rows.mjs): the forced cells as the released guide's own fill.sh prints them over the translation 4ccffd0e8f975fe6… (all of the seat's roots in one cut). By AI agents, Wed Nov 11 2026. No macro, syntax, notation, axiom, sorry.
-/
import Derived.Test.YthinmbcedgoglaaDoorChecked
import GoSem.Claim
import GoSem.ClaimJoined
import GoSem.ClaimMapViews
import Derived.JoinedTies
import Derived.KernelRfl
namespace Go.Proofs.YthinmbcedgoglaaDoor
/- THE CELL 'sum', in the pinned program and in every row, IS THE sha256 OF THE DUMP (.gsa) THAT YthinmbcedgoglaaDoorProg.lean LOADS. Nothing in Lean hashes anything: it is a label: what it is worth is what the hold of that sum in a sandbox is worth. -/
noncomputable def Tryd.pinned : Pinned := { name := "ythinmbcedgoglaadoor", sum := "4ccffd0e8f975fe60907d12b4be14cbe5a34a2e9d096efcb65e2137f16bbff0f", checked := Tryd.checked }
namespace Rows
def none {H : Type} : Left H := { results := [], args := [] }

/- WHAT THE LISTED PACKAGE-LEVEL VARIABLES READ AS WHEN THE CALL BEGINS. Each datum BY PROGRAM (the guide's laid-datum.mjs) off the statement by which the dump's own 'gosem.cut.vars' lays the variable. In a bare row this is a premise. The card (YthinmbcedgoglaaDoorCards.lean) ties it to the program's text. -/
def laid_sluice_ledger_errArg {H : Type} : DataW H := .iface "*errors.errorString" (.ptr (.agg [.lit (.string [97, 32, 110, 117, 109, 98, 101, 114, 32, 116, 104, 97, 116, 32, 109, 97, 121, 32, 110, 111, 116, 32, 98, 101])]))
def laid_sluice_ledger_errRights {H : Type} : DataW H := .iface "*errors.errorString" (.ptr (.agg [.lit (.string [110, 111, 116, 32, 101, 110, 111, 117, 103, 104, 32, 114, 105, 103, 104, 116, 115])]))
def laid_sluice_ledger_errCap {H : Type} : DataW H := .iface "*errors.errorString" (.ptr (.agg [.lit (.string [109, 111, 114, 101, 32, 116, 104, 97, 110, 32, 116, 104, 101, 32, 99, 97, 112])]))

/-- 'sluicelaw6.LedgerBack': WHATEVER THE INPUT: true; the input reads as it did. -/
def ledgerBackSpec : ChangeSpec := { name := "ledgerBack", fn := fun _ => fun
  | [d1, d2, d3, d4] => { results := [.lit (.bool true)], args := [d1, d2, d3, d4] }
  | _ => none }
def ledgerBackRow : OpenClaim := { program := "ythinmbcedgoglaadoor", sum := "4ccffd0e8f975fe60907d12b4be14cbe5a34a2e9d096efcb65e2137f16bbff0f", func := "sluice/sluicelaw6.LedgerBack", spec := "ledgerBack", inPlace := ["internal/reflectlite.TypeOf"], unfollowed := true, recurses := true, named := ["sluice/ledger.errArg", "sluice/ledger.errCap", "sluice/ledger.errRights"], apart := false, laid := [("sluice/ledger.errArg", laid_sluice_ledger_errArg), ("sluice/ledger.errRights", laid_sluice_ledger_errRights), ("sluice/ledger.errCap", laid_sluice_ledger_errCap)] }
def LedgerBackSaid : Prop := ledgerBackRow.holds Tryd.pinned (OpenSpec.ofChange ledgerBackSpec)

/-- ITS FALSE NEIGHBOUR: 'it returns false'. Refute it at one input. -/
def ledgerBackWrong : ChangeSpec := { name := "ledgerBack", fn := fun _ => fun
  | [d1, d2, d3, d4] => { results := [.lit (.bool false)], args := [d1, d2, d3, d4] }
  | _ => none }
def LedgerBackWrongFalsely : Prop := ledgerBackRow.holds Tryd.pinned (OpenSpec.ofChange ledgerBackWrong)

/-- 'sluicelaw6.LedgerConserves': WHATEVER THE INPUT: true; the input reads as it did. -/
def ledgerConservesSpec : ChangeSpec := { name := "ledgerConserves", fn := fun _ => fun
  | [d1, d2, d3, d4] => { results := [.lit (.bool true)], args := [d1, d2, d3, d4] }
  | _ => none }
def ledgerConservesRow : OpenClaim := { program := "ythinmbcedgoglaadoor", sum := "4ccffd0e8f975fe60907d12b4be14cbe5a34a2e9d096efcb65e2137f16bbff0f", func := "sluice/sluicelaw6.LedgerConserves", spec := "ledgerConserves", inPlace := ["internal/reflectlite.TypeOf"], unfollowed := true, recurses := true, named := ["sluice/ledger.errArg", "sluice/ledger.errCap", "sluice/ledger.errRights"], apart := false, laid := [("sluice/ledger.errArg", laid_sluice_ledger_errArg), ("sluice/ledger.errRights", laid_sluice_ledger_errRights), ("sluice/ledger.errCap", laid_sluice_ledger_errCap)] }
def LedgerConservesSaid : Prop := ledgerConservesRow.holds Tryd.pinned (OpenSpec.ofChange ledgerConservesSpec)

/-- ITS FALSE NEIGHBOUR: 'it returns false'. Refute it at one input. -/
def ledgerConservesWrong : ChangeSpec := { name := "ledgerConserves", fn := fun _ => fun
  | [d1, d2, d3, d4] => { results := [.lit (.bool false)], args := [d1, d2, d3, d4] }
  | _ => none }
def LedgerConservesWrongFalsely : Prop := ledgerConservesRow.holds Tryd.pinned (OpenSpec.ofChange ledgerConservesWrong)

/-- 'sluicelaw6.LedgerTurns': WHATEVER THE INPUT: true; the input reads as it did. -/
def ledgerTurnsSpec : ChangeSpec := { name := "ledgerTurns", fn := fun _ => fun
  | [d1, d2, d3] => { results := [.lit (.bool true)], args := [d1, d2, d3] }
  | _ => none }
def ledgerTurnsRow : OpenClaim := { program := "ythinmbcedgoglaadoor", sum := "4ccffd0e8f975fe60907d12b4be14cbe5a34a2e9d096efcb65e2137f16bbff0f", func := "sluice/sluicelaw6.LedgerTurns", spec := "ledgerTurns", inPlace := ["internal/reflectlite.TypeOf"], unfollowed := true, recurses := true, named := ["sluice/ledger.errArg", "sluice/ledger.errCap", "sluice/ledger.errRights"], apart := false, laid := [("sluice/ledger.errArg", laid_sluice_ledger_errArg), ("sluice/ledger.errRights", laid_sluice_ledger_errRights), ("sluice/ledger.errCap", laid_sluice_ledger_errCap)] }
def LedgerTurnsSaid : Prop := ledgerTurnsRow.holds Tryd.pinned (OpenSpec.ofChange ledgerTurnsSpec)

/-- ITS FALSE NEIGHBOUR: 'it returns false'. Refute it at one input. -/
def ledgerTurnsWrong : ChangeSpec := { name := "ledgerTurns", fn := fun _ => fun
  | [d1, d2, d3] => { results := [.lit (.bool false)], args := [d1, d2, d3] }
  | _ => none }
def LedgerTurnsWrongFalsely : Prop := ledgerTurnsRow.holds Tryd.pinned (OpenSpec.ofChange ledgerTurnsWrong)

/-- 'sluicelaw6.LedgerMoves': WHATEVER THE INPUT: true; the input reads as it did. -/
def ledgerMovesSpec : ChangeSpec := { name := "ledgerMoves", fn := fun _ => fun
  | [d1, d2, d3] => { results := [.lit (.bool true)], args := [d1, d2, d3] }
  | _ => none }
def ledgerMovesRow : OpenClaim := { program := "ythinmbcedgoglaadoor", sum := "4ccffd0e8f975fe60907d12b4be14cbe5a34a2e9d096efcb65e2137f16bbff0f", func := "sluice/sluicelaw6.LedgerMoves", spec := "ledgerMoves", inPlace := ["internal/reflectlite.TypeOf"], unfollowed := true, recurses := true, named := ["sluice/ledger.errArg", "sluice/ledger.errCap", "sluice/ledger.errRights"], apart := false, laid := [("sluice/ledger.errArg", laid_sluice_ledger_errArg), ("sluice/ledger.errRights", laid_sluice_ledger_errRights), ("sluice/ledger.errCap", laid_sluice_ledger_errCap)] }
def LedgerMovesSaid : Prop := ledgerMovesRow.holds Tryd.pinned (OpenSpec.ofChange ledgerMovesSpec)

/-- ITS FALSE NEIGHBOUR: 'it returns false'. Refute it at one input. -/
def ledgerMovesWrong : ChangeSpec := { name := "ledgerMoves", fn := fun _ => fun
  | [d1, d2, d3] => { results := [.lit (.bool false)], args := [d1, d2, d3] }
  | _ => none }
def LedgerMovesWrongFalsely : Prop := ledgerMovesRow.holds Tryd.pinned (OpenSpec.ofChange ledgerMovesWrong)

/-- 'sluicelaw6.LedgerCaps': WHATEVER THE INPUT: true; the input reads as it did. -/
def ledgerCapsSpec : ChangeSpec := { name := "ledgerCaps", fn := fun _ => fun
  | [d1, d2, d3] => { results := [.lit (.bool true)], args := [d1, d2, d3] }
  | _ => none }
def ledgerCapsRow : OpenClaim := { program := "ythinmbcedgoglaadoor", sum := "4ccffd0e8f975fe60907d12b4be14cbe5a34a2e9d096efcb65e2137f16bbff0f", func := "sluice/sluicelaw6.LedgerCaps", spec := "ledgerCaps", inPlace := ["internal/reflectlite.TypeOf"], unfollowed := true, recurses := true, named := ["sluice/ledger.errArg", "sluice/ledger.errCap", "sluice/ledger.errRights"], apart := false, laid := [("sluice/ledger.errArg", laid_sluice_ledger_errArg), ("sluice/ledger.errRights", laid_sluice_ledger_errRights), ("sluice/ledger.errCap", laid_sluice_ledger_errCap)] }
def LedgerCapsSaid : Prop := ledgerCapsRow.holds Tryd.pinned (OpenSpec.ofChange ledgerCapsSpec)

/-- ITS FALSE NEIGHBOUR: 'it returns false'. Refute it at one input. -/
def ledgerCapsWrong : ChangeSpec := { name := "ledgerCaps", fn := fun _ => fun
  | [d1, d2, d3] => { results := [.lit (.bool false)], args := [d1, d2, d3] }
  | _ => none }
def LedgerCapsWrongFalsely : Prop := ledgerCapsRow.holds Tryd.pinned (OpenSpec.ofChange ledgerCapsWrong)

/-- 'sluicelaw6.LedgerAll': WHATEVER THE INPUT: true; the input reads as it did. -/
def ledgerAllSpec : ChangeSpec := { name := "ledgerAll", fn := fun _ => fun
  | [d1, d2, d3] => { results := [.lit (.bool true)], args := [d1, d2, d3] }
  | _ => none }
def ledgerAllRow : OpenClaim := { program := "ythinmbcedgoglaadoor", sum := "4ccffd0e8f975fe60907d12b4be14cbe5a34a2e9d096efcb65e2137f16bbff0f", func := "sluice/sluicelaw6.LedgerAll", spec := "ledgerAll", inPlace := ["internal/reflectlite.TypeOf"], unfollowed := true, recurses := true, named := ["sluice/ledger.errArg", "sluice/ledger.errCap", "sluice/ledger.errRights"], apart := false, laid := [("sluice/ledger.errArg", laid_sluice_ledger_errArg), ("sluice/ledger.errRights", laid_sluice_ledger_errRights), ("sluice/ledger.errCap", laid_sluice_ledger_errCap)] }
def LedgerAllSaid : Prop := ledgerAllRow.holds Tryd.pinned (OpenSpec.ofChange ledgerAllSpec)

/-- ITS FALSE NEIGHBOUR: 'it returns false'. Refute it at one input. -/
def ledgerAllWrong : ChangeSpec := { name := "ledgerAll", fn := fun _ => fun
  | [d1, d2, d3] => { results := [.lit (.bool false)], args := [d1, d2, d3] }
  | _ => none }
def LedgerAllWrongFalsely : Prop := ledgerAllRow.holds Tryd.pinned (OpenSpec.ofChange ledgerAllWrong)

/-- 'sluicelaw6.LedgerSound': WHATEVER THE INPUT: true; the input reads as it did. -/
def ledgerSoundSpec : ChangeSpec := { name := "ledgerSound", fn := fun _ => fun
  | [d1, d2] => { results := [.lit (.bool true)], args := [d1, d2] }
  | _ => none }
def ledgerSoundRow : OpenClaim := { program := "ythinmbcedgoglaadoor", sum := "4ccffd0e8f975fe60907d12b4be14cbe5a34a2e9d096efcb65e2137f16bbff0f", func := "sluice/sluicelaw6.LedgerSound", spec := "ledgerSound", inPlace := ["internal/reflectlite.TypeOf"], unfollowed := true, recurses := true, named := ["sluice/ledger.errArg", "sluice/ledger.errCap", "sluice/ledger.errRights"], apart := false, laid := [("sluice/ledger.errArg", laid_sluice_ledger_errArg), ("sluice/ledger.errRights", laid_sluice_ledger_errRights), ("sluice/ledger.errCap", laid_sluice_ledger_errCap)] }
def LedgerSoundSaid : Prop := ledgerSoundRow.holds Tryd.pinned (OpenSpec.ofChange ledgerSoundSpec)

/-- ITS FALSE NEIGHBOUR: 'it returns false'. Refute it at one input. -/
def ledgerSoundWrong : ChangeSpec := { name := "ledgerSound", fn := fun _ => fun
  | [d1, d2] => { results := [.lit (.bool false)], args := [d1, d2] }
  | _ => none }
def LedgerSoundWrongFalsely : Prop := ledgerSoundRow.holds Tryd.pinned (OpenSpec.ofChange ledgerSoundWrong)

/- THE SECOND FORM. 'bulk': how many values and letters a reading holds, each counted each time it is reached (what is shared counts as often as it is met; a slice's spare places count too). A statement '..UptoSaid' is the law's where the arguments, and the package variables that the reading takes, are together of bulk at most 1048576: NARROWER than '..Said'. Prove '..Said' where nothing that the law and all that it calls make is longer than what came in: it says more and counts as full. Else prove '..UptoSaid'. A law counts once. -/
mutual
def uptoBulk {H : Type} : DataW H → Nat
  | .lit (.string bytes) => bytes.length + 1
  | .lit _ => 1
  | .nil => 1
  | .ptr d => uptoBulk d + 1
  | .slice elems spare => uptoBulkAll elems + uptoBulkAll spare + 1
  | .agg parts => uptoBulkAll parts + 1
  | .iface _ d => uptoBulk d + 1
  | .map entries => uptoBulkEntries entries + 1
  | .held _ => 1
def uptoBulkAll {H : Type} : List (DataW H) → Nat
  | [] => 0
  | d :: r => uptoBulk d + uptoBulkAll r
def uptoBulkEntries {H : Type} : List (Lit × DataW H) → Nat
  | [] => 0
  | x :: r => uptoBulkEntry x + uptoBulkEntries r
def uptoBulkEntry {H : Type} : Lit × DataW H → Nat
  | (.string bytes, d) => bytes.length + uptoBulk d + 1
  | (_, d) => uptoBulk d + 1
 end
def uptoSmall : (H : Type) → List (DataW H) → Bool := fun _ ds => decide (uptoBulkAll ds ≤ 1048576)
def OpenSpec.upto (s : _root_.Go.ChangeSpec) : _root_.Go.OpenSpec := { _root_.Go.OpenSpec.ofChange s with cond := some uptoSmall }

/-- 'sluicelaw6.LedgerBack', WHERE WHAT IT READS IS OF BULK AT MOST 1048576: true; the input reads as it did. -/
def ledgerBackUptoRow : OpenClaim := { program := "ythinmbcedgoglaadoor", sum := "4ccffd0e8f975fe60907d12b4be14cbe5a34a2e9d096efcb65e2137f16bbff0f", func := "sluice/sluicelaw6.LedgerBack", spec := "ledgerBack", inPlace := ["internal/reflectlite.TypeOf"], unfollowed := true, recurses := true, named := ["sluice/ledger.errArg", "sluice/ledger.errCap", "sluice/ledger.errRights"], apart := false, laid := [("sluice/ledger.errArg", laid_sluice_ledger_errArg), ("sluice/ledger.errRights", laid_sluice_ledger_errRights), ("sluice/ledger.errCap", laid_sluice_ledger_errCap)], narrowed := true }
def LedgerBackUptoSaid : Prop := ledgerBackUptoRow.holds Tryd.pinned (OpenSpec.upto ledgerBackSpec)

/-- 'sluicelaw6.LedgerConserves', WHERE WHAT IT READS IS OF BULK AT MOST 1048576: true; the input reads as it did. -/
def ledgerConservesUptoRow : OpenClaim := { program := "ythinmbcedgoglaadoor", sum := "4ccffd0e8f975fe60907d12b4be14cbe5a34a2e9d096efcb65e2137f16bbff0f", func := "sluice/sluicelaw6.LedgerConserves", spec := "ledgerConserves", inPlace := ["internal/reflectlite.TypeOf"], unfollowed := true, recurses := true, named := ["sluice/ledger.errArg", "sluice/ledger.errCap", "sluice/ledger.errRights"], apart := false, laid := [("sluice/ledger.errArg", laid_sluice_ledger_errArg), ("sluice/ledger.errRights", laid_sluice_ledger_errRights), ("sluice/ledger.errCap", laid_sluice_ledger_errCap)], narrowed := true }
def LedgerConservesUptoSaid : Prop := ledgerConservesUptoRow.holds Tryd.pinned (OpenSpec.upto ledgerConservesSpec)

/-- 'sluicelaw6.LedgerTurns', WHERE WHAT IT READS IS OF BULK AT MOST 1048576: true; the input reads as it did. -/
def ledgerTurnsUptoRow : OpenClaim := { program := "ythinmbcedgoglaadoor", sum := "4ccffd0e8f975fe60907d12b4be14cbe5a34a2e9d096efcb65e2137f16bbff0f", func := "sluice/sluicelaw6.LedgerTurns", spec := "ledgerTurns", inPlace := ["internal/reflectlite.TypeOf"], unfollowed := true, recurses := true, named := ["sluice/ledger.errArg", "sluice/ledger.errCap", "sluice/ledger.errRights"], apart := false, laid := [("sluice/ledger.errArg", laid_sluice_ledger_errArg), ("sluice/ledger.errRights", laid_sluice_ledger_errRights), ("sluice/ledger.errCap", laid_sluice_ledger_errCap)], narrowed := true }
def LedgerTurnsUptoSaid : Prop := ledgerTurnsUptoRow.holds Tryd.pinned (OpenSpec.upto ledgerTurnsSpec)

/-- 'sluicelaw6.LedgerMoves', WHERE WHAT IT READS IS OF BULK AT MOST 1048576: true; the input reads as it did. -/
def ledgerMovesUptoRow : OpenClaim := { program := "ythinmbcedgoglaadoor", sum := "4ccffd0e8f975fe60907d12b4be14cbe5a34a2e9d096efcb65e2137f16bbff0f", func := "sluice/sluicelaw6.LedgerMoves", spec := "ledgerMoves", inPlace := ["internal/reflectlite.TypeOf"], unfollowed := true, recurses := true, named := ["sluice/ledger.errArg", "sluice/ledger.errCap", "sluice/ledger.errRights"], apart := false, laid := [("sluice/ledger.errArg", laid_sluice_ledger_errArg), ("sluice/ledger.errRights", laid_sluice_ledger_errRights), ("sluice/ledger.errCap", laid_sluice_ledger_errCap)], narrowed := true }
def LedgerMovesUptoSaid : Prop := ledgerMovesUptoRow.holds Tryd.pinned (OpenSpec.upto ledgerMovesSpec)

/-- 'sluicelaw6.LedgerCaps', WHERE WHAT IT READS IS OF BULK AT MOST 1048576: true; the input reads as it did. -/
def ledgerCapsUptoRow : OpenClaim := { program := "ythinmbcedgoglaadoor", sum := "4ccffd0e8f975fe60907d12b4be14cbe5a34a2e9d096efcb65e2137f16bbff0f", func := "sluice/sluicelaw6.LedgerCaps", spec := "ledgerCaps", inPlace := ["internal/reflectlite.TypeOf"], unfollowed := true, recurses := true, named := ["sluice/ledger.errArg", "sluice/ledger.errCap", "sluice/ledger.errRights"], apart := false, laid := [("sluice/ledger.errArg", laid_sluice_ledger_errArg), ("sluice/ledger.errRights", laid_sluice_ledger_errRights), ("sluice/ledger.errCap", laid_sluice_ledger_errCap)], narrowed := true }
def LedgerCapsUptoSaid : Prop := ledgerCapsUptoRow.holds Tryd.pinned (OpenSpec.upto ledgerCapsSpec)

/-- 'sluicelaw6.LedgerAll', WHERE WHAT IT READS IS OF BULK AT MOST 1048576: true; the input reads as it did. -/
def ledgerAllUptoRow : OpenClaim := { program := "ythinmbcedgoglaadoor", sum := "4ccffd0e8f975fe60907d12b4be14cbe5a34a2e9d096efcb65e2137f16bbff0f", func := "sluice/sluicelaw6.LedgerAll", spec := "ledgerAll", inPlace := ["internal/reflectlite.TypeOf"], unfollowed := true, recurses := true, named := ["sluice/ledger.errArg", "sluice/ledger.errCap", "sluice/ledger.errRights"], apart := false, laid := [("sluice/ledger.errArg", laid_sluice_ledger_errArg), ("sluice/ledger.errRights", laid_sluice_ledger_errRights), ("sluice/ledger.errCap", laid_sluice_ledger_errCap)], narrowed := true }
def LedgerAllUptoSaid : Prop := ledgerAllUptoRow.holds Tryd.pinned (OpenSpec.upto ledgerAllSpec)

/-- 'sluicelaw6.LedgerSound', WHERE WHAT IT READS IS OF BULK AT MOST 1048576: true; the input reads as it did. -/
def ledgerSoundUptoRow : OpenClaim := { program := "ythinmbcedgoglaadoor", sum := "4ccffd0e8f975fe60907d12b4be14cbe5a34a2e9d096efcb65e2137f16bbff0f", func := "sluice/sluicelaw6.LedgerSound", spec := "ledgerSound", inPlace := ["internal/reflectlite.TypeOf"], unfollowed := true, recurses := true, named := ["sluice/ledger.errArg", "sluice/ledger.errCap", "sluice/ledger.errRights"], apart := false, laid := [("sluice/ledger.errArg", laid_sluice_ledger_errArg), ("sluice/ledger.errRights", laid_sluice_ledger_errRights), ("sluice/ledger.errCap", laid_sluice_ledger_errCap)], narrowed := true }
def LedgerSoundUptoSaid : Prop := ledgerSoundUptoRow.holds Tryd.pinned (OpenSpec.upto ledgerSoundSpec)

end Rows
end Go.Proofs.YthinmbcedgoglaaDoor
