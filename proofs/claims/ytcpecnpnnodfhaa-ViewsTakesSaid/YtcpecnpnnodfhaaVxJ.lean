/- Chapter 9's law: apart, where the book is empty; ViewsTakes. -/
import Derived.Test.YtcpecnpnnodfhaaVxI
set_option maxRecDepth 100000
set_option linter.unusedSimpArgs false
set_option linter.unusedVariables false
set_option maxHeartbeats 8000000
namespace Go.Proofs.Ytcpecnpnnodfhaa
open Go.RowKit

theorem apart_empty {bk : Nat} {w : World} (hR : (bkRes bk bk0).R w) : Calls Try.prog 24 #[pV bk] w fun e w' => e = .returned (.bool true) ∧ Frm (bkRes bk bk0).fp w w' := by
  have hI : Inv (cx 333 [] (bkRes bk bk0).fp w) w [bk, 0, 0, 0, 0] (bkMem bk0) := memRes_open hR fun x hx => hx
  refine calls_sm (cx 333 [] (bkRes bk bk0).fp w) (vals := [.ptr 0 0]) mixed Try.func24 rfl rfl rfl hI rfl (st rfl ?_); conv => arg 3; whnf
  refine gw ?_
  refine n_loop (σ := Unit) (fun _ => [(0, .ptr 0 0), (3, .lit true), (4, .int .i64 0)]) (fun _ => bkMem bk0) (fun _ => True) (fun _ => 0) () mixed trivial (fun _ _ => rfl) rfl (by (repeat (first | exact trivial | refine ⟨⟨rfl, rfl⟩, ?_⟩))) (fun s _ => ⟨by (repeat (first | exact trivial | refine ⟨⟨_, rfl⟩, ?_⟩)), by (repeat (first | exact trivial | refine ⟨⟨_, rfl⟩, ?_⟩))⟩) fun _ _ => ?_
  (refine gs ?_)
  refine gw ?_
  refine n_exit rfl ?_
  (refine gs ?_)
  refine gw ?_
  refine n_loop (σ := Unit) (fun _ => [(0, .ptr 0 0), (3, .lit true), (5, .int .i64 0)]) (fun _ => bkMem bk0) (fun _ => True) (fun _ => 0) () mixed trivial (fun _ _ => rfl) rfl (by (repeat (first | exact trivial | refine ⟨⟨rfl, rfl⟩, ?_⟩))) (fun s _ => ⟨by (repeat (first | exact trivial | refine ⟨⟨_, rfl⟩, ?_⟩)), by (repeat (first | exact trivial | refine ⟨⟨_, rfl⟩, ?_⟩))⟩) fun _ _ => ?_
  (refine gs ?_)
  refine gw ?_
  refine n_exit rfl ?_
  (refine gs ?_)
  refine gw ?_
  refine n_loop (σ := Unit) (fun _ => [(0, .ptr 0 0), (3, .lit true), (6, .int .i64 0)]) (fun _ => bkMem bk0) (fun _ => True) (fun _ => 0) () mixed trivial (fun _ _ => rfl) rfl (by (repeat (first | exact trivial | refine ⟨⟨rfl, rfl⟩, ?_⟩))) (fun s _ => ⟨by (repeat (first | exact trivial | refine ⟨⟨_, rfl⟩, ?_⟩)), by (repeat (first | exact trivial | refine ⟨⟨_, rfl⟩, ?_⟩))⟩) fun _ _ => ?_
  (refine gs ?_)
  refine gw ?_
  refine n_exit rfl ?_
  (refine gs ?_)
  refine gw ?_
  refine n_loop (σ := Unit) (fun _ => [(0, .ptr 0 0), (3, .lit true), (8, .int .i64 0)]) (fun _ => bkMem bk0) (fun _ => True) (fun _ => 0) () mixed trivial (fun _ _ => rfl) rfl (by (repeat (first | exact trivial | refine ⟨⟨rfl, rfl⟩, ?_⟩))) (fun s _ => ⟨by (repeat (first | exact trivial | refine ⟨⟨_, rfl⟩, ?_⟩)), by (repeat (first | exact trivial | refine ⟨⟨_, rfl⟩, ?_⟩))⟩) fun _ _ => ?_
  (refine gs ?_)
  refine gw ?_
  refine n_exit rfl ?_
  (refine gs ?_)
  refine gw ?_
  refine n_loop (σ := Unit) (fun _ => [(0, .ptr 0 0), (3, .lit true), (10, .int .i64 0)]) (fun _ => bkMem bk0) (fun _ => True) (fun _ => 0) () mixed trivial (fun _ _ => rfl) rfl (by (repeat (first | exact trivial | refine ⟨⟨rfl, rfl⟩, ?_⟩))) (fun s _ => ⟨by (repeat (first | exact trivial | refine ⟨⟨_, rfl⟩, ?_⟩)), by (repeat (first | exact trivial | refine ⟨⟨_, rfl⟩, ?_⟩))⟩) fun _ _ => ?_
  (refine gs ?_)
  refine gw ?_
  refine n_exit rfl ?_
  (refine gs ?_)
  refine gw ?_
  refine n_loop (σ := Unit) (fun _ => [(0, .ptr 0 0), (3, .lit true), (13, .int .i64 0)]) (fun _ => bkMem bk0) (fun _ => True) (fun _ => 0) () mixed trivial (fun _ _ => rfl) rfl (by (repeat (first | exact trivial | refine ⟨⟨rfl, rfl⟩, ?_⟩))) (fun s _ => ⟨by (repeat (first | exact trivial | refine ⟨⟨_, rfl⟩, ?_⟩)), by (repeat (first | exact trivial | refine ⟨⟨_, rfl⟩, ?_⟩))⟩) fun _ _ => ?_
  (refine gs ?_)
  refine gw ?_
  refine n_exit rfl ?_
  (refine gs ?_)
  refine gw ?_
  refine n_loop (σ := Unit) (fun _ => [(0, .ptr 0 0), (3, .lit true), (16, .int .i64 0)]) (fun _ => bkMem bk0) (fun _ => True) (fun _ => 0) () mixed trivial (fun _ _ => rfl) rfl (by (repeat (first | exact trivial | refine ⟨⟨rfl, rfl⟩, ?_⟩))) (fun s _ => ⟨by (repeat (first | exact trivial | refine ⟨⟨_, rfl⟩, ?_⟩)), by (repeat (first | exact trivial | refine ⟨⟨_, rfl⟩, ?_⟩))⟩) fun _ _ => ?_
  (refine gs ?_)
  refine gw ?_
  refine n_exit rfl ?_
  (refine gs ?_)
  refine gw ?_
  refine n_loop (σ := Unit) (fun _ => [(0, .ptr 0 0), (3, .lit true), (17, .int .i64 0)]) (fun _ => bkMem bk0) (fun _ => True) (fun _ => 0) () mixed trivial (fun _ _ => rfl) rfl (by (repeat (first | exact trivial | refine ⟨⟨rfl, rfl⟩, ?_⟩))) (fun s _ => ⟨by (repeat (first | exact trivial | refine ⟨⟨_, rfl⟩, ?_⟩)), by (repeat (first | exact trivial | refine ⟨⟨_, rfl⟩, ?_⟩))⟩) fun _ _ => ?_
  (refine gs ?_)
  refine gw ?_
  refine n_exit rfl ?_
  (refine gs ?_)
  refine gw ?_
  exact n_ret0 rfl rfl fun ids' w' hp hI' => ⟨rfl, hI'.frm⟩
theorem runH0 : RunH 0 0 := ⟨fun _ h => absurd h (by omega), fun _ h => absurd h (by omega), fun hB hN hE hR => by
  obtain rfl := hE ⟨by omega, by omega⟩
  exact apart_empty hR⟩
theorem ViewsTakes_ok {me peer n : Int} {o : Option Addr} {S : List Oq} {cap : Nat} {w : World} (hR : (oqRes o S).R w) (hS : ∀ x ∈ S, x.good ∧ (readRes x.vo (vws x.V)).R w) (hl : S.length ≤ 9223372036854775806) :
    Calls Try.prog 3 #[.int .i64 me, .int .i64 peer, .int .i64 n, .slice o S.length cap] w fun e w' => e = .returned (.bool true) ∧ Frm [] w w' := by
  have hI := Inv.nil (P := Try.prog) (N := 14) (S := []) (os := []) w
  refine calls_sm (cx 14 [] [] w) (vals := [.int .i64 me, .int .i64 peer, .int .i64 n, .raw (.slice o S.length cap)]) mixed Try.func3 rfl rfl rfl hI rfl (st rfl ?_); conv => arg 3; whnf
  refine gw ?_
  refine n_sameP (.bool true) rfl rfl rfl (fun ids' w1 hp hI1 => ?_) ?_
  · have h1 : (oqRes o S).R w1 := (oqRes o S).stable _ _ (fun k hk => hI1.frm.block k (rd_lt hR k hk) (by simp)) hR
    exact runs_ok runH0 h1 (fun x hx => ⟨(hS x hx).1, (readRes x.vo (vws x.V)).stable _ _ (fun k hk => hI1.frm.block k (rd_lt (hS x hx).2 k hk) (by simp)) (hS x hx).2⟩) hl
  (refine gs ?_)
  refine gw ?_
  exact n_ret0 rfl rfl fun ids' w' hp hI' => ⟨rfl, hI'.frm⟩
end Go.Proofs.Ytcpecnpnnodfhaa
