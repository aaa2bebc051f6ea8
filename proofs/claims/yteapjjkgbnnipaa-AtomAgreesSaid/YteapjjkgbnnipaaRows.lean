/-
  No cell of these rows narrows 'for every input' (looked for: loops, veiled, ifaces, maps, wideKeys, modest, calm, conditions, laid).
  DERIVED. THE GIVEN ROWS OF THIS SEAT. 7 by the template 'for every input the law returns true; each argument reads behind the call as it read before'; 0 by the template 'total and deterministic' (their statements: YteapjjkgbnnipaaTotals.lean).
  GIVEN WITH THE SEED: the statements are not yours to turn. If you find one false, say at which input.
  Laid BY PROGRAM, IN A SANDBOX (cutbox-rows.mjs): the forced cells as the released guide's own fill.sh prints them over the translation 7617245beaa9c092… (all of the seat's roots in one cut). By AI agents, Wed Nov 11 2026. No macro, syntax, notation, axiom, sorry.
-/
import Derived.Test.YteapjjkgbnnipaaChecked
import GoSem.Claim
import GoSem.ClaimJoined
import GoSem.ClaimMapViews
import Derived.JoinedTies
import Derived.KernelRfl
namespace Go.Proofs.Yteapjjkgbnnipaa
/- THE CELL 'sum', in the pinned program and in every row, IS THE sha256 OF THE DUMP (.gsa) THAT YteapjjkgbnnipaaProg.lean LOADS. Nothing in Lean hashes anything: it is a label: what it is worth is what the hold of that sum in a sandbox is worth. -/
noncomputable def Try.pinned : Pinned := { name := "yteapjjkgbnnipaa", sum := "7617245beaa9c0926a0ba287b9db94aeceac978e87841d3768fb10e71598cb9f", checked := Try.checked }
namespace Rows
def none {H : Type} : Left H := { results := [], args := [] }

/-- 'sluicelaw16.AtomSound': WHATEVER THE INPUT: true; the input reads as it did. -/
def atomSoundSpec : ChangeSpec := { name := "atomSound", fn := fun _ => fun
  | [d] => { results := [.lit (.bool true)], args := [d] }
  | _ => none }
def atomSoundRow : OpenClaim := { program := "yteapjjkgbnnipaa", sum := "7617245beaa9c0926a0ba287b9db94aeceac978e87841d3768fb10e71598cb9f", func := "sluice/sluicelaw16.AtomSound", spec := "atomSound", unfollowed := true, recurses := true, apart := false }
def AtomSoundSaid : Prop := atomSoundRow.holds Try.pinned (OpenSpec.ofChange atomSoundSpec)

/-- ITS FALSE NEIGHBOUR: 'it returns false'. Refute it at one input. -/
def atomSoundWrong : ChangeSpec := { name := "atomSound", fn := fun _ => fun
  | [d] => { results := [.lit (.bool false)], args := [d] }
  | _ => none }
def AtomSoundWrongFalsely : Prop := atomSoundRow.holds Try.pinned (OpenSpec.ofChange atomSoundWrong)

/-- 'sluicelaw16.AtomHolds': WHATEVER THE INPUT: true; the input reads as it did. -/
def atomHoldsSpec : ChangeSpec := { name := "atomHolds", fn := fun _ => fun
  | [d1, d2, d3, d4, d5, d6] => { results := [.lit (.bool true)], args := [d1, d2, d3, d4, d5, d6] }
  | _ => none }
def atomHoldsRow : OpenClaim := { program := "yteapjjkgbnnipaa", sum := "7617245beaa9c0926a0ba287b9db94aeceac978e87841d3768fb10e71598cb9f", func := "sluice/sluicelaw16.AtomHolds", spec := "atomHolds", unfollowed := true, recurses := true, apart := false }
def AtomHoldsSaid : Prop := atomHoldsRow.holds Try.pinned (OpenSpec.ofChange atomHoldsSpec)

/-- ITS FALSE NEIGHBOUR: 'it returns false'. Refute it at one input. -/
def atomHoldsWrong : ChangeSpec := { name := "atomHolds", fn := fun _ => fun
  | [d1, d2, d3, d4, d5, d6] => { results := [.lit (.bool false)], args := [d1, d2, d3, d4, d5, d6] }
  | _ => none }
def AtomHoldsWrongFalsely : Prop := atomHoldsRow.holds Try.pinned (OpenSpec.ofChange atomHoldsWrong)

/-- 'sluicelaw16.AtomAgrees': WHATEVER THE INPUT: true; the input reads as it did. -/
def atomAgreesSpec : ChangeSpec := { name := "atomAgrees", fn := fun _ => fun
  | [d1, d2] => { results := [.lit (.bool true)], args := [d1, d2] }
  | _ => none }
def atomAgreesRow : OpenClaim := { program := "yteapjjkgbnnipaa", sum := "7617245beaa9c0926a0ba287b9db94aeceac978e87841d3768fb10e71598cb9f", func := "sluice/sluicelaw16.AtomAgrees", spec := "atomAgrees", inPlace := ["maps.clone"], unfollowed := true, recurses := true, apart := false }
def AtomAgreesSaid : Prop := atomAgreesRow.holds Try.pinned (OpenSpec.ofChange atomAgreesSpec)

/-- ITS FALSE NEIGHBOUR: 'it returns false'. Refute it at one input. -/
def atomAgreesWrong : ChangeSpec := { name := "atomAgrees", fn := fun _ => fun
  | [d1, d2] => { results := [.lit (.bool false)], args := [d1, d2] }
  | _ => none }
def AtomAgreesWrongFalsely : Prop := atomAgreesRow.holds Try.pinned (OpenSpec.ofChange atomAgreesWrong)

/-- 'sluicelaw16.AtomDoes': WHATEVER THE INPUT: true; the input reads as it did. -/
def atomDoesSpec : ChangeSpec := { name := "atomDoes", fn := fun _ => fun
  | [d] => { results := [.lit (.bool true)], args := [d] }
  | _ => none }
def atomDoesRow : OpenClaim := { program := "yteapjjkgbnnipaa", sum := "7617245beaa9c0926a0ba287b9db94aeceac978e87841d3768fb10e71598cb9f", func := "sluice/sluicelaw16.AtomDoes", spec := "atomDoes", inPlace := ["maps.clone"], unfollowed := true, recurses := true, apart := false }
def AtomDoesSaid : Prop := atomDoesRow.holds Try.pinned (OpenSpec.ofChange atomDoesSpec)

/-- ITS FALSE NEIGHBOUR: 'it returns false'. Refute it at one input. -/
def atomDoesWrong : ChangeSpec := { name := "atomDoes", fn := fun _ => fun
  | [d] => { results := [.lit (.bool false)], args := [d] }
  | _ => none }
def AtomDoesWrongFalsely : Prop := atomDoesRow.holds Try.pinned (OpenSpec.ofChange atomDoesWrong)

/-- 'sluicelaw16.AtomAllows': WHATEVER THE INPUT: true; the input reads as it did. -/
def atomAllowsSpec : ChangeSpec := { name := "atomAllows", fn := fun _ => fun
  | [d] => { results := [.lit (.bool true)], args := [d] }
  | _ => none }
def atomAllowsRow : OpenClaim := { program := "yteapjjkgbnnipaa", sum := "7617245beaa9c0926a0ba287b9db94aeceac978e87841d3768fb10e71598cb9f", func := "sluice/sluicelaw16.AtomAllows", spec := "atomAllows", inPlace := ["maps.clone"], unfollowed := true, recurses := true, apart := false }
def AtomAllowsSaid : Prop := atomAllowsRow.holds Try.pinned (OpenSpec.ofChange atomAllowsSpec)

/-- ITS FALSE NEIGHBOUR: 'it returns false'. Refute it at one input. -/
def atomAllowsWrong : ChangeSpec := { name := "atomAllows", fn := fun _ => fun
  | [d] => { results := [.lit (.bool false)], args := [d] }
  | _ => none }
def AtomAllowsWrongFalsely : Prop := atomAllowsRow.holds Try.pinned (OpenSpec.ofChange atomAllowsWrong)

/-- 'sluicelaw16.AtomPeeks': WHATEVER THE INPUT: true; the input reads as it did. -/
def atomPeeksSpec : ChangeSpec := { name := "atomPeeks", fn := fun _ => fun
  | [d] => { results := [.lit (.bool true)], args := [d] }
  | _ => none }
def atomPeeksRow : OpenClaim := { program := "yteapjjkgbnnipaa", sum := "7617245beaa9c0926a0ba287b9db94aeceac978e87841d3768fb10e71598cb9f", func := "sluice/sluicelaw16.AtomPeeks", spec := "atomPeeks", inPlace := ["maps.clone"], unfollowed := true, recurses := true, apart := false }
def AtomPeeksSaid : Prop := atomPeeksRow.holds Try.pinned (OpenSpec.ofChange atomPeeksSpec)

/-- ITS FALSE NEIGHBOUR: 'it returns false'. Refute it at one input. -/
def atomPeeksWrong : ChangeSpec := { name := "atomPeeks", fn := fun _ => fun
  | [d] => { results := [.lit (.bool false)], args := [d] }
  | _ => none }
def AtomPeeksWrongFalsely : Prop := atomPeeksRow.holds Try.pinned (OpenSpec.ofChange atomPeeksWrong)

/-- 'sluicelaw16.AtomAll': WHATEVER THE INPUT: true; the input reads as it did. -/
def atomAllSpec : ChangeSpec := { name := "atomAll", fn := fun _ => fun
  | [d] => { results := [.lit (.bool true)], args := [d] }
  | _ => none }
def atomAllRow : OpenClaim := { program := "yteapjjkgbnnipaa", sum := "7617245beaa9c0926a0ba287b9db94aeceac978e87841d3768fb10e71598cb9f", func := "sluice/sluicelaw16.AtomAll", spec := "atomAll", inPlace := ["maps.clone"], unfollowed := true, recurses := true, apart := false }
def AtomAllSaid : Prop := atomAllRow.holds Try.pinned (OpenSpec.ofChange atomAllSpec)

/-- ITS FALSE NEIGHBOUR: 'it returns false'. Refute it at one input. -/
def atomAllWrong : ChangeSpec := { name := "atomAll", fn := fun _ => fun
  | [d] => { results := [.lit (.bool false)], args := [d] }
  | _ => none }
def AtomAllWrongFalsely : Prop := atomAllRow.holds Try.pinned (OpenSpec.ofChange atomAllWrong)

/- THE SECOND FORM. 'bulk': how many values and letters a reading holds, each counted each time it is reached (what is shared counts as often as it is met; a slice's spare places count too). A statement '..UptoSaid' is the law's where the arguments, and the package variables that the reading takes, are together of bulk at most 1048576: NARROWER than '..Said'. Prove '..Said' where nothing that the law and all that it calls make is longer than what came in: it says more and counts as full. Else prove '..UptoSaid'. A law counts once. -/
mutual
def uptoBulk {H : Type} : DataW H → Nat
  | .lit (.string bytes) => bytes.length + 1
  | .lit _ => 1
  | .nil => 1
  | .ptr d => uptoBulk d + 1
  | .slice elems spare => uptoBulkAll elems + uptoBulkAll spare + 1
  | .agg parts => uptoBulkAll parts + 1
  | .iface _ d => uptoBulk d + 1
  | .map entries => uptoBulkEntries entries + 1
  | .held _ => 1
def uptoBulkAll {H : Type} : List (DataW H) → Nat
  | [] => 0
  | d :: r => uptoBulk d + uptoBulkAll r
def uptoBulkEntries {H : Type} : List (Lit × DataW H) → Nat
  | [] => 0
  | x :: r => uptoBulkEntry x + uptoBulkEntries r
def uptoBulkEntry {H : Type} : Lit × DataW H → Nat
  | (.string bytes, d) => bytes.length + uptoBulk d + 1
  | (_, d) => uptoBulk d + 1
 end
def uptoSmall : (H : Type) → List (DataW H) → Bool := fun _ ds => decide (uptoBulkAll ds ≤ 1048576)
def OpenSpec.upto (s : _root_.Go.ChangeSpec) : _root_.Go.OpenSpec := { _root_.Go.OpenSpec.ofChange s with cond := some uptoSmall }

/-- 'sluicelaw16.AtomSound', WHERE WHAT IT READS IS OF BULK AT MOST 1048576: true; the input reads as it did. -/
def atomSoundUptoRow : OpenClaim := { program := "yteapjjkgbnnipaa", sum := "7617245beaa9c0926a0ba287b9db94aeceac978e87841d3768fb10e71598cb9f", func := "sluice/sluicelaw16.AtomSound", spec := "atomSound", unfollowed := true, recurses := true, apart := false, narrowed := true }
def AtomSoundUptoSaid : Prop := atomSoundUptoRow.holds Try.pinned (OpenSpec.upto atomSoundSpec)

/-- 'sluicelaw16.AtomHolds', WHERE WHAT IT READS IS OF BULK AT MOST 1048576: true; the input reads as it did. -/
def atomHoldsUptoRow : OpenClaim := { program := "yteapjjkgbnnipaa", sum := "7617245beaa9c0926a0ba287b9db94aeceac978e87841d3768fb10e71598cb9f", func := "sluice/sluicelaw16.AtomHolds", spec := "atomHolds", unfollowed := true, recurses := true, apart := false, narrowed := true }
def AtomHoldsUptoSaid : Prop := atomHoldsUptoRow.holds Try.pinned (OpenSpec.upto atomHoldsSpec)

/-- 'sluicelaw16.AtomAgrees', WHERE WHAT IT READS IS OF BULK AT MOST 1048576: true; the input reads as it did. -/
def atomAgreesUptoRow : OpenClaim := { program := "yteapjjkgbnnipaa", sum := "7617245beaa9c0926a0ba287b9db94aeceac978e87841d3768fb10e71598cb9f", func := "sluice/sluicelaw16.AtomAgrees", spec := "atomAgrees", inPlace := ["maps.clone"], unfollowed := true, recurses := true, apart := false, narrowed := true }
def AtomAgreesUptoSaid : Prop := atomAgreesUptoRow.holds Try.pinned (OpenSpec.upto atomAgreesSpec)

/-- 'sluicelaw16.AtomDoes', WHERE WHAT IT READS IS OF BULK AT MOST 1048576: true; the input reads as it did. -/
def atomDoesUptoRow : OpenClaim := { program := "yteapjjkgbnnipaa", sum := "7617245beaa9c0926a0ba287b9db94aeceac978e87841d3768fb10e71598cb9f", func := "sluice/sluicelaw16.AtomDoes", spec := "atomDoes", inPlace := ["maps.clone"], unfollowed := true, recurses := true, apart := false, narrowed := true }
def AtomDoesUptoSaid : Prop := atomDoesUptoRow.holds Try.pinned (OpenSpec.upto atomDoesSpec)

/-- 'sluicelaw16.AtomAllows', WHERE WHAT IT READS IS OF BULK AT MOST 1048576: true; the input reads as it did. -/
def atomAllowsUptoRow : OpenClaim := { program := "yteapjjkgbnnipaa", sum := "7617245beaa9c0926a0ba287b9db94aeceac978e87841d3768fb10e71598cb9f", func := "sluice/sluicelaw16.AtomAllows", spec := "atomAllows", inPlace := ["maps.clone"], unfollowed := true, recurses := true, apart := false, narrowed := true }
def AtomAllowsUptoSaid : Prop := atomAllowsUptoRow.holds Try.pinned (OpenSpec.upto atomAllowsSpec)

/-- 'sluicelaw16.AtomPeeks', WHERE WHAT IT READS IS OF BULK AT MOST 1048576: true; the input reads as it did. -/
def atomPeeksUptoRow : OpenClaim := { program := "yteapjjkgbnnipaa", sum := "7617245beaa9c0926a0ba287b9db94aeceac978e87841d3768fb10e71598cb9f", func := "sluice/sluicelaw16.AtomPeeks", spec := "atomPeeks", inPlace := ["maps.clone"], unfollowed := true, recurses := true, apart := false, narrowed := true }
def AtomPeeksUptoSaid : Prop := atomPeeksUptoRow.holds Try.pinned (OpenSpec.upto atomPeeksSpec)

/-- 'sluicelaw16.AtomAll', WHERE WHAT IT READS IS OF BULK AT MOST 1048576: true; the input reads as it did. -/
def atomAllUptoRow : OpenClaim := { program := "yteapjjkgbnnipaa", sum := "7617245beaa9c0926a0ba287b9db94aeceac978e87841d3768fb10e71598cb9f", func := "sluice/sluicelaw16.AtomAll", spec := "atomAll", inPlace := ["maps.clone"], unfollowed := true, recurses := true, apart := false, narrowed := true }
def AtomAllUptoSaid : Prop := atomAllUptoRow.holds Try.pinned (OpenSpec.upto atomAllSpec)

end Rows
end Go.Proofs.Yteapjjkgbnnipaa
