/-
  No cell of these rows narrows 'for every input' (looked for: loops, veiled, ifaces, maps, wideKeys, modest, calm, conditions, laid).
  DERIVED. THE GIVEN ROWS OF THIS SEAT. 7 by the template 'for every input the law returns true; each argument reads behind the call as it read before'; 0 by the template 'total and deterministic' (their statements: YtcpecnpnnodfhaaTotals.lean).
  GIVEN WITH THE SEED: the statements are not yours to turn. If you find one false, say at which input.
  Laid BY PROGRAM, IN A SANDBOX (cutbox-rows.mjs): the forced cells as the released guide's own fill.sh prints them over the translation a421fd50ce046981… (all of the seat's roots in one cut). By AI agents, Wed Nov 11 2026. No macro, syntax, notation, axiom, sorry.
-/
import Derived.Test.YtcpecnpnnodfhaaChecked
import GoSem.Claim
import GoSem.ClaimJoined
import GoSem.ClaimMapViews
import Derived.JoinedTies
import Derived.KernelRfl
namespace Go.Proofs.Ytcpecnpnnodfhaa
/- THE CELL 'sum', in the pinned program and in every row, IS THE sha256 OF THE DUMP (.gsa) THAT YtcpecnpnnodfhaaProg.lean LOADS. Nothing in Lean hashes anything: it is a label: what it is worth is what the hold of that sum in a sandbox is worth. -/
noncomputable def Try.pinned : Pinned := { name := "ytcpecnpnnodfhaa", sum := "a421fd50ce0469815ae3d664eb38cdf64f38e797ffa19b557b244b3572beb694", checked := Try.checked }
namespace Rows
def none {H : Type} : Left H := { results := [], args := [] }

/-- 'sluicelaw9.ViewsTakes': WHATEVER THE INPUT: true; the input reads as it did. -/
def viewsTakesSpec : ChangeSpec := { name := "viewsTakes", fn := fun _ => fun
  | [d1, d2, d3, d4] => { results := [.lit (.bool true)], args := [d1, d2, d3, d4] }
  | _ => none }
def viewsTakesRow : OpenClaim := { program := "ytcpecnpnnodfhaa", sum := "a421fd50ce0469815ae3d664eb38cdf64f38e797ffa19b557b244b3572beb694", func := "sluice/sluicelaw9.ViewsTakes", spec := "viewsTakes", unfollowed := true, recurses := true, plainKeys := false, apart := false }
def ViewsTakesSaid : Prop := viewsTakesRow.holds Try.pinned (OpenSpec.ofChange viewsTakesSpec)

/-- ITS FALSE NEIGHBOUR: 'it returns false'. Refute it at one input. -/
def viewsTakesWrong : ChangeSpec := { name := "viewsTakes", fn := fun _ => fun
  | [d1, d2, d3, d4] => { results := [.lit (.bool false)], args := [d1, d2, d3, d4] }
  | _ => none }
def ViewsTakesWrongFalsely : Prop := viewsTakesRow.holds Try.pinned (OpenSpec.ofChange viewsTakesWrong)

/-- 'sluicelaw9.ViewsDigests': WHATEVER THE INPUT: true; the input reads as it did. -/
def viewsDigestsSpec : ChangeSpec := { name := "viewsDigests", fn := fun _ => fun
  | [d1, d2, d3, d4] => { results := [.lit (.bool true)], args := [d1, d2, d3, d4] }
  | _ => none }
def viewsDigestsRow : OpenClaim := { program := "ytcpecnpnnodfhaa", sum := "a421fd50ce0469815ae3d664eb38cdf64f38e797ffa19b557b244b3572beb694", func := "sluice/sluicelaw9.ViewsDigests", spec := "viewsDigests", unfollowed := true, recurses := true, plainKeys := false, apart := false }
def ViewsDigestsSaid : Prop := viewsDigestsRow.holds Try.pinned (OpenSpec.ofChange viewsDigestsSpec)

/-- ITS FALSE NEIGHBOUR: 'it returns false'. Refute it at one input. -/
def viewsDigestsWrong : ChangeSpec := { name := "viewsDigests", fn := fun _ => fun
  | [d1, d2, d3, d4] => { results := [.lit (.bool false)], args := [d1, d2, d3, d4] }
  | _ => none }
def ViewsDigestsWrongFalsely : Prop := viewsDigestsRow.holds Try.pinned (OpenSpec.ofChange viewsDigestsWrong)

/-- 'sluicelaw9.ViewsKnows': WHATEVER THE INPUT: true; the input reads as it did. -/
def viewsKnowsSpec : ChangeSpec := { name := "viewsKnows", fn := fun _ => fun
  | [d1, d2, d3, d4] => { results := [.lit (.bool true)], args := [d1, d2, d3, d4] }
  | _ => none }
def viewsKnowsRow : OpenClaim := { program := "ytcpecnpnnodfhaa", sum := "a421fd50ce0469815ae3d664eb38cdf64f38e797ffa19b557b244b3572beb694", func := "sluice/sluicelaw9.ViewsKnows", spec := "viewsKnows", unfollowed := true, recurses := true, plainKeys := false, apart := false }
def ViewsKnowsSaid : Prop := viewsKnowsRow.holds Try.pinned (OpenSpec.ofChange viewsKnowsSpec)

/-- ITS FALSE NEIGHBOUR: 'it returns false'. Refute it at one input. -/
def viewsKnowsWrong : ChangeSpec := { name := "viewsKnows", fn := fun _ => fun
  | [d1, d2, d3, d4] => { results := [.lit (.bool false)], args := [d1, d2, d3, d4] }
  | _ => none }
def ViewsKnowsWrongFalsely : Prop := viewsKnowsRow.holds Try.pinned (OpenSpec.ofChange viewsKnowsWrong)

/-- 'sluicelaw9.ViewsAll': WHATEVER THE INPUT: true; the input reads as it did. -/
def viewsAllSpec : ChangeSpec := { name := "viewsAll", fn := fun _ => fun
  | [d1, d2, d3, d4] => { results := [.lit (.bool true)], args := [d1, d2, d3, d4] }
  | _ => none }
def viewsAllRow : OpenClaim := { program := "ytcpecnpnnodfhaa", sum := "a421fd50ce0469815ae3d664eb38cdf64f38e797ffa19b557b244b3572beb694", func := "sluice/sluicelaw9.ViewsAll", spec := "viewsAll", unfollowed := true, recurses := true, plainKeys := false, apart := false }
def ViewsAllSaid : Prop := viewsAllRow.holds Try.pinned (OpenSpec.ofChange viewsAllSpec)

/-- ITS FALSE NEIGHBOUR: 'it returns false'. Refute it at one input. -/
def viewsAllWrong : ChangeSpec := { name := "viewsAll", fn := fun _ => fun
  | [d1, d2, d3, d4] => { results := [.lit (.bool false)], args := [d1, d2, d3, d4] }
  | _ => none }
def ViewsAllWrongFalsely : Prop := viewsAllRow.holds Try.pinned (OpenSpec.ofChange viewsAllWrong)

/-- 'sluicelaw9.ViewsMeet': WHATEVER THE INPUT: true; the input reads as it did. -/
def viewsMeetSpec : ChangeSpec := { name := "viewsMeet", fn := fun _ => fun
  | [d1, d2] => { results := [.lit (.bool true)], args := [d1, d2] }
  | _ => none }
def viewsMeetRow : OpenClaim := { program := "ytcpecnpnnodfhaa", sum := "a421fd50ce0469815ae3d664eb38cdf64f38e797ffa19b557b244b3572beb694", func := "sluice/sluicelaw9.ViewsMeet", spec := "viewsMeet", unfollowed := true, recurses := true, plainKeys := false, apart := false }
def ViewsMeetSaid : Prop := viewsMeetRow.holds Try.pinned (OpenSpec.ofChange viewsMeetSpec)

/-- ITS FALSE NEIGHBOUR: 'it returns false'. Refute it at one input. -/
def viewsMeetWrong : ChangeSpec := { name := "viewsMeet", fn := fun _ => fun
  | [d1, d2] => { results := [.lit (.bool false)], args := [d1, d2] }
  | _ => none }
def ViewsMeetWrongFalsely : Prop := viewsMeetRow.holds Try.pinned (OpenSpec.ofChange viewsMeetWrong)

/-- 'sluicelaw9.ViewsLate': WHATEVER THE INPUT: true; the input reads as it did. -/
def viewsLateSpec : ChangeSpec := { name := "viewsLate", fn := fun _ => fun
  | [d1, d2, d3] => { results := [.lit (.bool true)], args := [d1, d2, d3] }
  | _ => none }
def viewsLateRow : OpenClaim := { program := "ytcpecnpnnodfhaa", sum := "a421fd50ce0469815ae3d664eb38cdf64f38e797ffa19b557b244b3572beb694", func := "sluice/sluicelaw9.ViewsLate", spec := "viewsLate", unfollowed := true, recurses := true, plainKeys := false, apart := false }
def ViewsLateSaid : Prop := viewsLateRow.holds Try.pinned (OpenSpec.ofChange viewsLateSpec)

/-- ITS FALSE NEIGHBOUR: 'it returns false'. Refute it at one input. -/
def viewsLateWrong : ChangeSpec := { name := "viewsLate", fn := fun _ => fun
  | [d1, d2, d3] => { results := [.lit (.bool false)], args := [d1, d2, d3] }
  | _ => none }
def ViewsLateWrongFalsely : Prop := viewsLateRow.holds Try.pinned (OpenSpec.ofChange viewsLateWrong)

/-- 'sluicelaw9.ViewsRefused': WHATEVER THE INPUT: true; the input reads as it did. -/
def viewsRefusedSpec : ChangeSpec := { name := "viewsRefused", fn := fun _ => fun
  | [d1, d2, d3, d4] => { results := [.lit (.bool true)], args := [d1, d2, d3, d4] }
  | _ => none }
def viewsRefusedRow : OpenClaim := { program := "ytcpecnpnnodfhaa", sum := "a421fd50ce0469815ae3d664eb38cdf64f38e797ffa19b557b244b3572beb694", func := "sluice/sluicelaw9.ViewsRefused", spec := "viewsRefused", unfollowed := true, recurses := true, plainKeys := false, apart := false }
def ViewsRefusedSaid : Prop := viewsRefusedRow.holds Try.pinned (OpenSpec.ofChange viewsRefusedSpec)

/-- ITS FALSE NEIGHBOUR: 'it returns false'. Refute it at one input. -/
def viewsRefusedWrong : ChangeSpec := { name := "viewsRefused", fn := fun _ => fun
  | [d1, d2, d3, d4] => { results := [.lit (.bool false)], args := [d1, d2, d3, d4] }
  | _ => none }
def ViewsRefusedWrongFalsely : Prop := viewsRefusedRow.holds Try.pinned (OpenSpec.ofChange viewsRefusedWrong)

/- THE SECOND FORM. 'bulk': how many values and letters a reading holds, each counted each time it is reached (what is shared counts as often as it is met; a slice's spare places count too). A statement '..UptoSaid' is the law's where the arguments, and the package variables that the reading takes, are together of bulk at most 1048576: NARROWER than '..Said'. Prove '..Said' where nothing that the law and all that it calls make is longer than what came in: it says more and counts as full. Else prove '..UptoSaid'. A law counts once. -/
mutual
def uptoBulk {H : Type} : DataW H → Nat
  | .lit (.string bytes) => bytes.length + 1
  | .lit _ => 1
  | .nil => 1
  | .ptr d => uptoBulk d + 1
  | .slice elems spare => uptoBulkAll elems + uptoBulkAll spare + 1
  | .agg parts => uptoBulkAll parts + 1
  | .iface _ d => uptoBulk d + 1
  | .map entries => uptoBulkEntries entries + 1
  | .held _ => 1
def uptoBulkAll {H : Type} : List (DataW H) → Nat
  | [] => 0
  | d :: r => uptoBulk d + uptoBulkAll r
def uptoBulkEntries {H : Type} : List (Lit × DataW H) → Nat
  | [] => 0
  | x :: r => uptoBulkEntry x + uptoBulkEntries r
def uptoBulkEntry {H : Type} : Lit × DataW H → Nat
  | (.string bytes, d) => bytes.length + uptoBulk d + 1
  | (_, d) => uptoBulk d + 1
 end
def uptoSmall : (H : Type) → List (DataW H) → Bool := fun _ ds => decide (uptoBulkAll ds ≤ 1048576)
def OpenSpec.upto (s : _root_.Go.ChangeSpec) : _root_.Go.OpenSpec := { _root_.Go.OpenSpec.ofChange s with cond := some uptoSmall }

/-- 'sluicelaw9.ViewsTakes', WHERE WHAT IT READS IS OF BULK AT MOST 1048576: true; the input reads as it did. -/
def viewsTakesUptoRow : OpenClaim := { program := "ytcpecnpnnodfhaa", sum := "a421fd50ce0469815ae3d664eb38cdf64f38e797ffa19b557b244b3572beb694", func := "sluice/sluicelaw9.ViewsTakes", spec := "viewsTakes", unfollowed := true, recurses := true, plainKeys := false, apart := false, narrowed := true }
def ViewsTakesUptoSaid : Prop := viewsTakesUptoRow.holds Try.pinned (OpenSpec.upto viewsTakesSpec)

/-- 'sluicelaw9.ViewsDigests', WHERE WHAT IT READS IS OF BULK AT MOST 1048576: true; the input reads as it did. -/
def viewsDigestsUptoRow : OpenClaim := { program := "ytcpecnpnnodfhaa", sum := "a421fd50ce0469815ae3d664eb38cdf64f38e797ffa19b557b244b3572beb694", func := "sluice/sluicelaw9.ViewsDigests", spec := "viewsDigests", unfollowed := true, recurses := true, plainKeys := false, apart := false, narrowed := true }
def ViewsDigestsUptoSaid : Prop := viewsDigestsUptoRow.holds Try.pinned (OpenSpec.upto viewsDigestsSpec)

/-- 'sluicelaw9.ViewsKnows', WHERE WHAT IT READS IS OF BULK AT MOST 1048576: true; the input reads as it did. -/
def viewsKnowsUptoRow : OpenClaim := { program := "ytcpecnpnnodfhaa", sum := "a421fd50ce0469815ae3d664eb38cdf64f38e797ffa19b557b244b3572beb694", func := "sluice/sluicelaw9.ViewsKnows", spec := "viewsKnows", unfollowed := true, recurses := true, plainKeys := false, apart := false, narrowed := true }
def ViewsKnowsUptoSaid : Prop := viewsKnowsUptoRow.holds Try.pinned (OpenSpec.upto viewsKnowsSpec)

/-- 'sluicelaw9.ViewsAll', WHERE WHAT IT READS IS OF BULK AT MOST 1048576: true; the input reads as it did. -/
def viewsAllUptoRow : OpenClaim := { program := "ytcpecnpnnodfhaa", sum := "a421fd50ce0469815ae3d664eb38cdf64f38e797ffa19b557b244b3572beb694", func := "sluice/sluicelaw9.ViewsAll", spec := "viewsAll", unfollowed := true, recurses := true, plainKeys := false, apart := false, narrowed := true }
def ViewsAllUptoSaid : Prop := viewsAllUptoRow.holds Try.pinned (OpenSpec.upto viewsAllSpec)

/-- 'sluicelaw9.ViewsMeet', WHERE WHAT IT READS IS OF BULK AT MOST 1048576: true; the input reads as it did. -/
def viewsMeetUptoRow : OpenClaim := { program := "ytcpecnpnnodfhaa", sum := "a421fd50ce0469815ae3d664eb38cdf64f38e797ffa19b557b244b3572beb694", func := "sluice/sluicelaw9.ViewsMeet", spec := "viewsMeet", unfollowed := true, recurses := true, plainKeys := false, apart := false, narrowed := true }
def ViewsMeetUptoSaid : Prop := viewsMeetUptoRow.holds Try.pinned (OpenSpec.upto viewsMeetSpec)

/-- 'sluicelaw9.ViewsLate', WHERE WHAT IT READS IS OF BULK AT MOST 1048576: true; the input reads as it did. -/
def viewsLateUptoRow : OpenClaim := { program := "ytcpecnpnnodfhaa", sum := "a421fd50ce0469815ae3d664eb38cdf64f38e797ffa19b557b244b3572beb694", func := "sluice/sluicelaw9.ViewsLate", spec := "viewsLate", unfollowed := true, recurses := true, plainKeys := false, apart := false, narrowed := true }
def ViewsLateUptoSaid : Prop := viewsLateUptoRow.holds Try.pinned (OpenSpec.upto viewsLateSpec)

/-- 'sluicelaw9.ViewsRefused', WHERE WHAT IT READS IS OF BULK AT MOST 1048576: true; the input reads as it did. -/
def viewsRefusedUptoRow : OpenClaim := { program := "ytcpecnpnnodfhaa", sum := "a421fd50ce0469815ae3d664eb38cdf64f38e797ffa19b557b244b3572beb694", func := "sluice/sluicelaw9.ViewsRefused", spec := "viewsRefused", unfollowed := true, recurses := true, plainKeys := false, apart := false, narrowed := true }
def ViewsRefusedUptoSaid : Prop := viewsRefusedUptoRow.holds Try.pinned (OpenSpec.upto viewsRefusedSpec)

end Rows
end Go.Proofs.Ytcpecnpnnodfhaa
