/- The program's rules of order; contexts. -/
import Derived.Test.YtglafgpjgkphkaaGreatDoorMp
import Derived.Test.YtglafgpjgkphkaaGreatDoorProg
namespace Go.Proofs.YtglafgpjgkphkaaGreatDoor
open Go.RowKit

theorem mixed : Tryz.prog.follows .mixedOrders = true := by kernel_rfl
noncomputable abbrev cx (N : Nat) (os : List (Nat × Odr)) (S : List Nat) (w : World) : Ctx := { P := Tryz.prog, N, os, S, w0 := w }
end Go.Proofs.YtglafgpjgkphkaaGreatDoor
