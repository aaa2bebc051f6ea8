/-
  No cell of these rows narrows 'for every input' (looked for: loops, veiled, ifaces, maps, wideKeys, modest, calm, conditions, laid).
  DERIVED. THE GIVEN ROWS OF THIS SEAT. 5 by the template 'for every input the law returns true; each argument reads behind the call as it read before'; 0 by the template 'total and deterministic' (their statements: YtfcbcgjgkleonaaTotals.lean).
  GIVEN WITH THE SEED: the statements are not yours to turn. If you find one false, say at which input.
  Laid BY PROGRAM, IN A SANDBOX (cutbox-rows.mjs): the forced cells as the released guide's own fill.sh prints them over the translation e089ba3420b5d690… (all of the seat's roots in one cut). By AI agents, Wed Nov 11 2026. No macro, syntax, notation, axiom, sorry.
-/
import Derived.Test.YtfcbcgjgkleonaaChecked
import GoSem.Claim
import GoSem.ClaimJoined
import GoSem.ClaimMapViews
import Derived.JoinedTies
import Derived.KernelRfl
namespace Go.Proofs.Ytfcbcgjgkleonaa
/- THE CELL 'sum', in the pinned program and in every row, IS THE sha256 OF THE DUMP (.gsa) THAT YtfcbcgjgkleonaaProg.lean LOADS. Nothing in Lean hashes anything: it is a label: what it is worth is what the hold of that sum in a sandbox is worth. -/
noncomputable def Try.pinned : Pinned := { name := "ytfcbcgjgkleonaa", sum := "e089ba3420b5d69054f71cb115fe1a37dc5b0f668030e9e48c5dabef3b8916e5", checked := Try.checked }
namespace Rows
def none {H : Type} : Left H := { results := [], args := [] }

/-- 'sluicelaw17.CheckVerifies': WHATEVER THE INPUT: true; the input reads as it did. -/
def checkVerifiesSpec : ChangeSpec := { name := "checkVerifies", fn := fun _ => fun
  | [d1, d2] => { results := [.lit (.bool true)], args := [d1, d2] }
  | _ => none }
def checkVerifiesRow : OpenClaim := { program := "ytfcbcgjgkleonaa", sum := "e089ba3420b5d69054f71cb115fe1a37dc5b0f668030e9e48c5dabef3b8916e5", func := "sluice/sluicelaw17.CheckVerifies", spec := "checkVerifies", inPlace := ["maps.clone"], unfollowed := true, recurses := true, plainKeys := false, apart := false }
def CheckVerifiesSaid : Prop := checkVerifiesRow.holds Try.pinned (OpenSpec.ofChange checkVerifiesSpec)

/-- ITS FALSE NEIGHBOUR: 'it returns false'. Refute it at one input. -/
def checkVerifiesWrong : ChangeSpec := { name := "checkVerifies", fn := fun _ => fun
  | [d1, d2] => { results := [.lit (.bool false)], args := [d1, d2] }
  | _ => none }
def CheckVerifiesWrongFalsely : Prop := checkVerifiesRow.holds Try.pinned (OpenSpec.ofChange checkVerifiesWrong)

/-- 'sluicelaw17.CheckSearches': WHATEVER THE INPUT: true; the input reads as it did. -/
def checkSearchesSpec : ChangeSpec := { name := "checkSearches", fn := fun _ => fun
  | [d] => { results := [.lit (.bool true)], args := [d] }
  | _ => none }
def checkSearchesRow : OpenClaim := { program := "ytfcbcgjgkleonaa", sum := "e089ba3420b5d69054f71cb115fe1a37dc5b0f668030e9e48c5dabef3b8916e5", func := "sluice/sluicelaw17.CheckSearches", spec := "checkSearches", inPlace := ["maps.clone"], unfollowed := true, recurses := true, plainKeys := false, apart := false }
def CheckSearchesSaid : Prop := checkSearchesRow.holds Try.pinned (OpenSpec.ofChange checkSearchesSpec)

/-- ITS FALSE NEIGHBOUR: 'it returns false'. Refute it at one input. -/
def checkSearchesWrong : ChangeSpec := { name := "checkSearches", fn := fun _ => fun
  | [d] => { results := [.lit (.bool false)], args := [d] }
  | _ => none }
def CheckSearchesWrongFalsely : Prop := checkSearchesRow.holds Try.pinned (OpenSpec.ofChange checkSearchesWrong)

/-- 'sluicelaw17.CheckAll': WHATEVER THE INPUT: true; the input reads as it did. -/
def checkAllSpec : ChangeSpec := { name := "checkAll", fn := fun _ => fun
  | [d] => { results := [.lit (.bool true)], args := [d] }
  | _ => none }
def checkAllRow : OpenClaim := { program := "ytfcbcgjgkleonaa", sum := "e089ba3420b5d69054f71cb115fe1a37dc5b0f668030e9e48c5dabef3b8916e5", func := "sluice/sluicelaw17.CheckAll", spec := "checkAll", inPlace := ["maps.clone"], unfollowed := true, recurses := true, plainKeys := false, apart := false }
def CheckAllSaid : Prop := checkAllRow.holds Try.pinned (OpenSpec.ofChange checkAllSpec)

/-- ITS FALSE NEIGHBOUR: 'it returns false'. Refute it at one input. -/
def checkAllWrong : ChangeSpec := { name := "checkAll", fn := fun _ => fun
  | [d] => { results := [.lit (.bool false)], args := [d] }
  | _ => none }
def CheckAllWrongFalsely : Prop := checkAllRow.holds Try.pinned (OpenSpec.ofChange checkAllWrong)

/-- 'sluicelaw17.CheckTrue': WHATEVER THE INPUT: true; the input reads as it did. -/
def checkTrueSpec : ChangeSpec := { name := "checkTrue", fn := fun _ => fun
  | [d1, d2, d3] => { results := [.lit (.bool true)], args := [d1, d2, d3] }
  | _ => none }
def checkTrueRow : OpenClaim := { program := "ytfcbcgjgkleonaa", sum := "e089ba3420b5d69054f71cb115fe1a37dc5b0f668030e9e48c5dabef3b8916e5", func := "sluice/sluicelaw17.CheckTrue", spec := "checkTrue", inPlace := ["maps.clone"], unfollowed := true, recurses := true, plainKeys := false, apart := false }
def CheckTrueSaid : Prop := checkTrueRow.holds Try.pinned (OpenSpec.ofChange checkTrueSpec)

/-- ITS FALSE NEIGHBOUR: 'it returns false'. Refute it at one input. -/
def checkTrueWrong : ChangeSpec := { name := "checkTrue", fn := fun _ => fun
  | [d1, d2, d3] => { results := [.lit (.bool false)], args := [d1, d2, d3] }
  | _ => none }
def CheckTrueWrongFalsely : Prop := checkTrueRow.holds Try.pinned (OpenSpec.ofChange checkTrueWrong)

/-- 'sluicelaw17.CheckFinds': WHATEVER THE INPUT: true; the input reads as it did. -/
def checkFindsSpec : ChangeSpec := { name := "checkFinds", fn := fun _ => fun
  | [d1, d2] => { results := [.lit (.bool true)], args := [d1, d2] }
  | _ => none }
def checkFindsRow : OpenClaim := { program := "ytfcbcgjgkleonaa", sum := "e089ba3420b5d69054f71cb115fe1a37dc5b0f668030e9e48c5dabef3b8916e5", func := "sluice/sluicelaw17.CheckFinds", spec := "checkFinds", inPlace := ["maps.clone"], unfollowed := true, recurses := true, plainKeys := false, apart := false }
def CheckFindsSaid : Prop := checkFindsRow.holds Try.pinned (OpenSpec.ofChange checkFindsSpec)

/-- ITS FALSE NEIGHBOUR: 'it returns false'. Refute it at one input. -/
def checkFindsWrong : ChangeSpec := { name := "checkFinds", fn := fun _ => fun
  | [d1, d2] => { results := [.lit (.bool false)], args := [d1, d2] }
  | _ => none }
def CheckFindsWrongFalsely : Prop := checkFindsRow.holds Try.pinned (OpenSpec.ofChange checkFindsWrong)

/- THE SECOND FORM. 'bulk': how many values and letters a reading holds, each counted each time it is reached (what is shared counts as often as it is met; a slice's spare places count too). A statement '..UptoSaid' is the law's where the arguments, and the package variables that the reading takes, are together of bulk at most 1048576: NARROWER than '..Said'. Prove '..Said' where nothing that the law and all that it calls make is longer than what came in: it says more and counts as full. Else prove '..UptoSaid'. A law counts once. -/
mutual
def uptoBulk {H : Type} : DataW H → Nat
  | .lit (.string bytes) => bytes.length + 1
  | .lit _ => 1
  | .nil => 1
  | .ptr d => uptoBulk d + 1
  | .slice elems spare => uptoBulkAll elems + uptoBulkAll spare + 1
  | .agg parts => uptoBulkAll parts + 1
  | .iface _ d => uptoBulk d + 1
  | .map entries => uptoBulkEntries entries + 1
  | .held _ => 1
def uptoBulkAll {H : Type} : List (DataW H) → Nat
  | [] => 0
  | d :: r => uptoBulk d + uptoBulkAll r
def uptoBulkEntries {H : Type} : List (Lit × DataW H) → Nat
  | [] => 0
  | x :: r => uptoBulkEntry x + uptoBulkEntries r
def uptoBulkEntry {H : Type} : Lit × DataW H → Nat
  | (.string bytes, d) => bytes.length + uptoBulk d + 1
  | (_, d) => uptoBulk d + 1
 end
def uptoSmall : (H : Type) → List (DataW H) → Bool := fun _ ds => decide (uptoBulkAll ds ≤ 1048576)
def OpenSpec.upto (s : _root_.Go.ChangeSpec) : _root_.Go.OpenSpec := { _root_.Go.OpenSpec.ofChange s with cond := some uptoSmall }

/-- 'sluicelaw17.CheckVerifies', WHERE WHAT IT READS IS OF BULK AT MOST 1048576: true; the input reads as it did. -/
def checkVerifiesUptoRow : OpenClaim := { program := "ytfcbcgjgkleonaa", sum := "e089ba3420b5d69054f71cb115fe1a37dc5b0f668030e9e48c5dabef3b8916e5", func := "sluice/sluicelaw17.CheckVerifies", spec := "checkVerifies", inPlace := ["maps.clone"], unfollowed := true, recurses := true, plainKeys := false, apart := false, narrowed := true }
def CheckVerifiesUptoSaid : Prop := checkVerifiesUptoRow.holds Try.pinned (OpenSpec.upto checkVerifiesSpec)

/-- 'sluicelaw17.CheckSearches', WHERE WHAT IT READS IS OF BULK AT MOST 1048576: true; the input reads as it did. -/
def checkSearchesUptoRow : OpenClaim := { program := "ytfcbcgjgkleonaa", sum := "e089ba3420b5d69054f71cb115fe1a37dc5b0f668030e9e48c5dabef3b8916e5", func := "sluice/sluicelaw17.CheckSearches", spec := "checkSearches", inPlace := ["maps.clone"], unfollowed := true, recurses := true, plainKeys := false, apart := false, narrowed := true }
def CheckSearchesUptoSaid : Prop := checkSearchesUptoRow.holds Try.pinned (OpenSpec.upto checkSearchesSpec)

/-- 'sluicelaw17.CheckAll', WHERE WHAT IT READS IS OF BULK AT MOST 1048576: true; the input reads as it did. -/
def checkAllUptoRow : OpenClaim := { program := "ytfcbcgjgkleonaa", sum := "e089ba3420b5d69054f71cb115fe1a37dc5b0f668030e9e48c5dabef3b8916e5", func := "sluice/sluicelaw17.CheckAll", spec := "checkAll", inPlace := ["maps.clone"], unfollowed := true, recurses := true, plainKeys := false, apart := false, narrowed := true }
def CheckAllUptoSaid : Prop := checkAllUptoRow.holds Try.pinned (OpenSpec.upto checkAllSpec)

/-- 'sluicelaw17.CheckTrue', WHERE WHAT IT READS IS OF BULK AT MOST 1048576: true; the input reads as it did. -/
def checkTrueUptoRow : OpenClaim := { program := "ytfcbcgjgkleonaa", sum := "e089ba3420b5d69054f71cb115fe1a37dc5b0f668030e9e48c5dabef3b8916e5", func := "sluice/sluicelaw17.CheckTrue", spec := "checkTrue", inPlace := ["maps.clone"], unfollowed := true, recurses := true, plainKeys := false, apart := false, narrowed := true }
def CheckTrueUptoSaid : Prop := checkTrueUptoRow.holds Try.pinned (OpenSpec.upto checkTrueSpec)

/-- 'sluicelaw17.CheckFinds', WHERE WHAT IT READS IS OF BULK AT MOST 1048576: true; the input reads as it did. -/
def checkFindsUptoRow : OpenClaim := { program := "ytfcbcgjgkleonaa", sum := "e089ba3420b5d69054f71cb115fe1a37dc5b0f668030e9e48c5dabef3b8916e5", func := "sluice/sluicelaw17.CheckFinds", spec := "checkFinds", inPlace := ["maps.clone"], unfollowed := true, recurses := true, plainKeys := false, apart := false, narrowed := true }
def CheckFindsUptoSaid : Prop := checkFindsUptoRow.holds Try.pinned (OpenSpec.upto checkFindsSpec)

end Rows
end Go.Proofs.Ytfcbcgjgkleonaa
