/- Chapter 9's law: ViewsAll. -/
import Derived.Test.YtcpecnpnnodfhaaVxI
import Derived.Test.YtcpecnpnnodfhaaVxN
import Derived.Test.YtcpecnpnnodfhaaVxQ
set_option maxRecDepth 100000
set_option linter.unusedSimpArgs false
set_option linter.unusedVariables false
set_option maxHeartbeats 8000000
namespace Go.Proofs.Ytcpecnpnnodfhaa
open Go.RowKit

theorem runH_ViewsAll : RunH 3 5 := ⟨fun _ _ => digests_ok, fun _ _ => knows_ok, fun hB hN _ hR => apart_ok hB hN hR⟩
theorem ViewsAll_ok {me peer n : Int} {o : Option Addr} {S : List Oq} {cap : Nat} {w : World} (hR : (oqRes o S).R w) (hS : ∀ x ∈ S, x.good ∧ (readRes x.vo (vws x.V)).R w) (hl : S.length ≤ 9223372036854775806) :
    Calls Try.prog 6 #[.int .i64 me, .int .i64 peer, .int .i64 n, .slice o S.length cap] w fun e w' => e = .returned (.bool true) ∧ Frm [] w w' := by
  have hI := Inv.nil (P := Try.prog) (N := 14) (S := []) (os := []) w
  refine calls_sm (cx 14 [] [] w) (vals := [.int .i64 me, .int .i64 peer, .int .i64 n, .raw (.slice o S.length cap)]) mixed Try.func6 rfl rfl rfl hI rfl (st rfl ?_); conv => arg 3; whnf
  refine gw ?_
  refine n_sameP (.bool true) rfl rfl rfl (fun ids' w1 hp hI1 => ?_) ?_
  · have h1 : (oqRes o S).R w1 := (oqRes o S).stable _ _ (fun k hk => hI1.frm.block k (rd_lt hR k hk) (by simp)) hR
    exact runs_ok runH_ViewsAll h1 (fun x hx => ⟨(hS x hx).1, (readRes x.vo (vws x.V)).stable _ _ (fun k hk => hI1.frm.block k (rd_lt (hS x hx).2 k hk) (by simp)) (hS x hx).2⟩) hl
  (refine gs ?_)
  refine gw ?_
  exact n_ret0 rfl rfl fun ids' w' hp hI' => ⟨rfl, hI'.frm⟩
end Go.Proofs.Ytcpecnpnnodfhaa
