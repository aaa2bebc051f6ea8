/- The program's rules of order; contexts. -/
import Derived.Test.YtcpecnpnnodfhaaMp
import Derived.Test.YtcpecnpnnodfhaaProg
namespace Go.Proofs.Ytcpecnpnnodfhaa
open Go.RowKit

theorem mixed : Try.prog.follows .mixedOrders = true := by kernel_rfl
noncomputable abbrev cx (N : Nat) (os : List (Nat × Odr)) (S : List Nat) (w : World) : Ctx := { P := Try.prog, N, os, S, w0 := w }
end Go.Proofs.Ytcpecnpnnodfhaa
