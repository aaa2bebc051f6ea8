/-
  No cell of these rows narrows 'for every input' (looked for: loops, veiled, ifaces, maps, wideKeys, modest, calm, conditions, laid).
  DERIVED. THE GIVEN ROWS OF THIS SEAT. 6 by the template 'for every input the law returns true; each argument reads behind the call as it read before'; 0 by the template 'total and deterministic' (their statements: YtjmaddmklogchaaTotals.lean).
  GIVEN WITH THE SEED: the statements are not yours to turn. If you find one false, say at which input.
  Laid BY PROGRAM, IN A SANDBOX (cutbox-rows.mjs): the forced cells as the released guide's own fill.sh prints them over the translation 14e2900dc99945f4… (all of the seat's roots in one cut). By AI agents, Wed Nov 11 2026. No macro, syntax, notation, axiom, sorry.
-/
import Derived.Test.YtjmaddmklogchaaChecked
import GoSem.Claim
import GoSem.ClaimJoined
import GoSem.ClaimMapViews
import Derived.JoinedTies
import Derived.KernelRfl
namespace Go.Proofs.Ytjmaddmklogchaa
/- THE CELL 'sum', in the pinned program and in every row, IS THE sha256 OF THE DUMP (.gsa) THAT YtjmaddmklogchaaProg.lean LOADS. Nothing in Lean hashes anything: it is a label: what it is worth is what the hold of that sum in a sandbox is worth. -/
noncomputable def Try.pinned : Pinned := { name := "ytjmaddmklogchaa", sum := "14e2900dc99945f44bb1e36c748130823023816d456600372ecf6a4947d2eb88", checked := Try.checked }
namespace Rows
def none {H : Type} : Left H := { results := [], args := [] }

/-- 'sluicelaw5.WheelArms': WHATEVER THE INPUT: true; the input reads as it did. -/
def wheelArmsSpec : ChangeSpec := { name := "wheelArms", fn := fun _ => fun
  | [d1, d2] => { results := [.lit (.bool true)], args := [d1, d2] }
  | _ => none }
def wheelArmsRow : OpenClaim := { program := "ytjmaddmklogchaa", sum := "14e2900dc99945f44bb1e36c748130823023816d456600372ecf6a4947d2eb88", func := "sluice/sluicelaw5.WheelArms", spec := "wheelArms", unfollowed := true, recurses := true, apart := false }
def WheelArmsSaid : Prop := wheelArmsRow.holds Try.pinned (OpenSpec.ofChange wheelArmsSpec)

/-- ITS FALSE NEIGHBOUR: 'it returns false'. Refute it at one input. -/
def wheelArmsWrong : ChangeSpec := { name := "wheelArms", fn := fun _ => fun
  | [d1, d2] => { results := [.lit (.bool false)], args := [d1, d2] }
  | _ => none }
def WheelArmsWrongFalsely : Prop := wheelArmsRow.holds Try.pinned (OpenSpec.ofChange wheelArmsWrong)

/-- 'sluicelaw5.WheelTicks': WHATEVER THE INPUT: true; the input reads as it did. -/
def wheelTicksSpec : ChangeSpec := { name := "wheelTicks", fn := fun _ => fun
  | [d1, d2] => { results := [.lit (.bool true)], args := [d1, d2] }
  | _ => none }
def wheelTicksRow : OpenClaim := { program := "ytjmaddmklogchaa", sum := "14e2900dc99945f44bb1e36c748130823023816d456600372ecf6a4947d2eb88", func := "sluice/sluicelaw5.WheelTicks", spec := "wheelTicks", unfollowed := true, recurses := true, apart := false }
def WheelTicksSaid : Prop := wheelTicksRow.holds Try.pinned (OpenSpec.ofChange wheelTicksSpec)

/-- ITS FALSE NEIGHBOUR: 'it returns false'. Refute it at one input. -/
def wheelTicksWrong : ChangeSpec := { name := "wheelTicks", fn := fun _ => fun
  | [d1, d2] => { results := [.lit (.bool false)], args := [d1, d2] }
  | _ => none }
def WheelTicksWrongFalsely : Prop := wheelTicksRow.holds Try.pinned (OpenSpec.ofChange wheelTicksWrong)

/-- 'sluicelaw5.WheelLists': WHATEVER THE INPUT: true; the input reads as it did. -/
def wheelListsSpec : ChangeSpec := { name := "wheelLists", fn := fun _ => fun
  | [d1, d2] => { results := [.lit (.bool true)], args := [d1, d2] }
  | _ => none }
def wheelListsRow : OpenClaim := { program := "ytjmaddmklogchaa", sum := "14e2900dc99945f44bb1e36c748130823023816d456600372ecf6a4947d2eb88", func := "sluice/sluicelaw5.WheelLists", spec := "wheelLists", unfollowed := true, recurses := true, apart := false }
def WheelListsSaid : Prop := wheelListsRow.holds Try.pinned (OpenSpec.ofChange wheelListsSpec)

/-- ITS FALSE NEIGHBOUR: 'it returns false'. Refute it at one input. -/
def wheelListsWrong : ChangeSpec := { name := "wheelLists", fn := fun _ => fun
  | [d1, d2] => { results := [.lit (.bool false)], args := [d1, d2] }
  | _ => none }
def WheelListsWrongFalsely : Prop := wheelListsRow.holds Try.pinned (OpenSpec.ofChange wheelListsWrong)

/-- 'sluicelaw5.WheelAll': WHATEVER THE INPUT: true; the input reads as it did. -/
def wheelAllSpec : ChangeSpec := { name := "wheelAll", fn := fun _ => fun
  | [d1, d2] => { results := [.lit (.bool true)], args := [d1, d2] }
  | _ => none }
def wheelAllRow : OpenClaim := { program := "ytjmaddmklogchaa", sum := "14e2900dc99945f44bb1e36c748130823023816d456600372ecf6a4947d2eb88", func := "sluice/sluicelaw5.WheelAll", spec := "wheelAll", unfollowed := true, recurses := true, apart := false }
def WheelAllSaid : Prop := wheelAllRow.holds Try.pinned (OpenSpec.ofChange wheelAllSpec)

/-- ITS FALSE NEIGHBOUR: 'it returns false'. Refute it at one input. -/
def wheelAllWrong : ChangeSpec := { name := "wheelAll", fn := fun _ => fun
  | [d1, d2] => { results := [.lit (.bool false)], args := [d1, d2] }
  | _ => none }
def WheelAllWrongFalsely : Prop := wheelAllRow.holds Try.pinned (OpenSpec.ofChange wheelAllWrong)

/-- 'sluicelaw5.WheelSlots': WHATEVER THE INPUT: true; the input reads as it did. -/
def wheelSlotsSpec : ChangeSpec := { name := "wheelSlots", fn := fun _ => fun
  | [d1, d2, d3, d4] => { results := [.lit (.bool true)], args := [d1, d2, d3, d4] }
  | _ => none }
def wheelSlotsRow : OpenClaim := { program := "ytjmaddmklogchaa", sum := "14e2900dc99945f44bb1e36c748130823023816d456600372ecf6a4947d2eb88", func := "sluice/sluicelaw5.WheelSlots", spec := "wheelSlots", unfollowed := true, recurses := true, apart := false }
def WheelSlotsSaid : Prop := wheelSlotsRow.holds Try.pinned (OpenSpec.ofChange wheelSlotsSpec)

/-- ITS FALSE NEIGHBOUR: 'it returns false'. Refute it at one input. -/
def wheelSlotsWrong : ChangeSpec := { name := "wheelSlots", fn := fun _ => fun
  | [d1, d2, d3, d4] => { results := [.lit (.bool false)], args := [d1, d2, d3, d4] }
  | _ => none }
def WheelSlotsWrongFalsely : Prop := wheelSlotsRow.holds Try.pinned (OpenSpec.ofChange wheelSlotsWrong)

/-- 'sluicelaw5.WheelOnce': WHATEVER THE INPUT: true; the input reads as it did. -/
def wheelOnceSpec : ChangeSpec := { name := "wheelOnce", fn := fun _ => fun
  | [d1, d2, d3] => { results := [.lit (.bool true)], args := [d1, d2, d3] }
  | _ => none }
def wheelOnceRow : OpenClaim := { program := "ytjmaddmklogchaa", sum := "14e2900dc99945f44bb1e36c748130823023816d456600372ecf6a4947d2eb88", func := "sluice/sluicelaw5.WheelOnce", spec := "wheelOnce", unfollowed := true, recurses := true, apart := false }
def WheelOnceSaid : Prop := wheelOnceRow.holds Try.pinned (OpenSpec.ofChange wheelOnceSpec)

/-- ITS FALSE NEIGHBOUR: 'it returns false'. Refute it at one input. -/
def wheelOnceWrong : ChangeSpec := { name := "wheelOnce", fn := fun _ => fun
  | [d1, d2, d3] => { results := [.lit (.bool false)], args := [d1, d2, d3] }
  | _ => none }
def WheelOnceWrongFalsely : Prop := wheelOnceRow.holds Try.pinned (OpenSpec.ofChange wheelOnceWrong)

/- THE SECOND FORM. 'bulk': how many values and letters a reading holds, each counted each time it is reached (what is shared counts as often as it is met; a slice's spare places count too). A statement '..UptoSaid' is the law's where the arguments, and the package variables that the reading takes, are together of bulk at most 1048576: NARROWER than '..Said'. Prove '..Said' where nothing that the law and all that it calls make is longer than what came in: it says more and counts as full. Else prove '..UptoSaid'. A law counts once. -/
mutual
def uptoBulk {H : Type} : DataW H → Nat
  | .lit (.string bytes) => bytes.length + 1
  | .lit _ => 1
  | .nil => 1
  | .ptr d => uptoBulk d + 1
  | .slice elems spare => uptoBulkAll elems + uptoBulkAll spare + 1
  | .agg parts => uptoBulkAll parts + 1
  | .iface _ d => uptoBulk d + 1
  | .map entries => uptoBulkEntries entries + 1
  | .held _ => 1
def uptoBulkAll {H : Type} : List (DataW H) → Nat
  | [] => 0
  | d :: r => uptoBulk d + uptoBulkAll r
def uptoBulkEntries {H : Type} : List (Lit × DataW H) → Nat
  | [] => 0
  | x :: r => uptoBulkEntry x + uptoBulkEntries r
def uptoBulkEntry {H : Type} : Lit × DataW H → Nat
  | (.string bytes, d) => bytes.length + uptoBulk d + 1
  | (_, d) => uptoBulk d + 1
 end
def uptoSmall : (H : Type) → List (DataW H) → Bool := fun _ ds => decide (uptoBulkAll ds ≤ 1048576)
def OpenSpec.upto (s : _root_.Go.ChangeSpec) : _root_.Go.OpenSpec := { _root_.Go.OpenSpec.ofChange s with cond := some uptoSmall }

/-- 'sluicelaw5.WheelArms', WHERE WHAT IT READS IS OF BULK AT MOST 1048576: true; the input reads as it did. -/
def wheelArmsUptoRow : OpenClaim := { program := "ytjmaddmklogchaa", sum := "14e2900dc99945f44bb1e36c748130823023816d456600372ecf6a4947d2eb88", func := "sluice/sluicelaw5.WheelArms", spec := "wheelArms", unfollowed := true, recurses := true, apart := false, narrowed := true }
def WheelArmsUptoSaid : Prop := wheelArmsUptoRow.holds Try.pinned (OpenSpec.upto wheelArmsSpec)

/-- 'sluicelaw5.WheelTicks', WHERE WHAT IT READS IS OF BULK AT MOST 1048576: true; the input reads as it did. -/
def wheelTicksUptoRow : OpenClaim := { program := "ytjmaddmklogchaa", sum := "14e2900dc99945f44bb1e36c748130823023816d456600372ecf6a4947d2eb88", func := "sluice/sluicelaw5.WheelTicks", spec := "wheelTicks", unfollowed := true, recurses := true, apart := false, narrowed := true }
def WheelTicksUptoSaid : Prop := wheelTicksUptoRow.holds Try.pinned (OpenSpec.upto wheelTicksSpec)

/-- 'sluicelaw5.WheelLists', WHERE WHAT IT READS IS OF BULK AT MOST 1048576: true; the input reads as it did. -/
def wheelListsUptoRow : OpenClaim := { program := "ytjmaddmklogchaa", sum := "14e2900dc99945f44bb1e36c748130823023816d456600372ecf6a4947d2eb88", func := "sluice/sluicelaw5.WheelLists", spec := "wheelLists", unfollowed := true, recurses := true, apart := false, narrowed := true }
def WheelListsUptoSaid : Prop := wheelListsUptoRow.holds Try.pinned (OpenSpec.upto wheelListsSpec)

/-- 'sluicelaw5.WheelAll', WHERE WHAT IT READS IS OF BULK AT MOST 1048576: true; the input reads as it did. -/
def wheelAllUptoRow : OpenClaim := { program := "ytjmaddmklogchaa", sum := "14e2900dc99945f44bb1e36c748130823023816d456600372ecf6a4947d2eb88", func := "sluice/sluicelaw5.WheelAll", spec := "wheelAll", unfollowed := true, recurses := true, apart := false, narrowed := true }
def WheelAllUptoSaid : Prop := wheelAllUptoRow.holds Try.pinned (OpenSpec.upto wheelAllSpec)

/-- 'sluicelaw5.WheelSlots', WHERE WHAT IT READS IS OF BULK AT MOST 1048576: true; the input reads as it did. -/
def wheelSlotsUptoRow : OpenClaim := { program := "ytjmaddmklogchaa", sum := "14e2900dc99945f44bb1e36c748130823023816d456600372ecf6a4947d2eb88", func := "sluice/sluicelaw5.WheelSlots", spec := "wheelSlots", unfollowed := true, recurses := true, apart := false, narrowed := true }
def WheelSlotsUptoSaid : Prop := wheelSlotsUptoRow.holds Try.pinned (OpenSpec.upto wheelSlotsSpec)

/-- 'sluicelaw5.WheelOnce', WHERE WHAT IT READS IS OF BULK AT MOST 1048576: true; the input reads as it did. -/
def wheelOnceUptoRow : OpenClaim := { program := "ytjmaddmklogchaa", sum := "14e2900dc99945f44bb1e36c748130823023816d456600372ecf6a4947d2eb88", func := "sluice/sluicelaw5.WheelOnce", spec := "wheelOnce", unfollowed := true, recurses := true, apart := false, narrowed := true }
def WheelOnceUptoSaid : Prop := wheelOnceUptoRow.holds Try.pinned (OpenSpec.upto wheelOnceSpec)

end Rows
end Go.Proofs.Ytjmaddmklogchaa
