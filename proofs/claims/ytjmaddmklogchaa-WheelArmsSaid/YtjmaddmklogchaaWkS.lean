/- Chapter 5's law: the four laws of plays; the script as an argument. -/
import Derived.Test.YtjmaddmklogchaaBnT
import Derived.Test.YtjmaddmklogchaaWkR
set_option maxRecDepth 100000
set_option linter.unusedSimpArgs false
set_option linter.unusedVariables false
set_option maxHeartbeats 8000000
namespace Go.Proofs.Ytjmaddmklogchaa
open Go.ChangeShapes Go.WideShapes Go.ChangeAt Go.RowKit

theorem WheelArms_ok {n : Int} {o : Option Addr} {S : List Ac} {cap : Nat} {w : World} (hR : (acRes o S).R w) (hS : ∀ a ∈ S, i64 a.a) (hl : S.length ≤ 9223372036854775806) :
    Calls Try.prog 3 #[.int .i64 n, .slice o S.length cap] w fun e w' => e = .returned (.bool true) ∧ Frm [] w w' := by
  have hI := Inv.nil (P := Try.prog) (N := 8) (S := []) (os := []) w
  have hS1 : ∀ w1, Frm [] w w1 → (acRes o S).R w1 := fun w1 hf => (acRes o S).stable _ _ (fun k hk => hf.block k (rd_lt hR k hk) (by simp)) hR
  refine calls_sm (cx 8 [] [] w) (vals := [.int .i64 n, .raw (.slice o S.length cap)]) mixed Try.func3 rfl rfl rfl hI rfl (st rfl ?_); conv => arg 3; whnf
  refine gw ?_
  by_cases hn : 1 ≤ n ∧ n ≤ 64
  · refine n_sameP (.bool true) rfl rfl rfl (fun _ w1 hp1 hI1 => plays_good hn (hS1 _ hI1.frm) hS hl) ?_; (refine gs ?_)
    refine gw ?_
    exact n_ret0 rfl rfl fun ids' w' hp hI' => ⟨rfl, hI'.frm⟩
  · refine n_sameP (.bool true) rfl rfl rfl (fun _ w1 hp1 hI1 => plays_bad (v := .nilIface) (by omega)) ?_; (refine gs ?_)
    refine gw ?_
    exact n_ret0 rfl rfl fun ids' w' hp hI' => ⟨rfl, hI'.frm⟩
theorem WheelTicks_ok {n : Int} {o : Option Addr} {S : List Ac} {cap : Nat} {w : World} (hR : (acRes o S).R w) (hS : ∀ a ∈ S, i64 a.a) (hl : S.length ≤ 9223372036854775806) :
    Calls Try.prog 4 #[.int .i64 n, .slice o S.length cap] w fun e w' => e = .returned (.bool true) ∧ Frm [] w w' := by
  have hI := Inv.nil (P := Try.prog) (N := 8) (S := []) (os := []) w
  have hS1 : ∀ w1, Frm [] w w1 → (acRes o S).R w1 := fun w1 hf => (acRes o S).stable _ _ (fun k hk => hf.block k (rd_lt hR k hk) (by simp)) hR
  refine calls_sm (cx 8 [] [] w) (vals := [.int .i64 n, .raw (.slice o S.length cap)]) mixed Try.func4 rfl rfl rfl hI rfl (st rfl ?_); conv => arg 3; whnf
  refine gw ?_
  by_cases hn : 1 ≤ n ∧ n ≤ 64
  · refine n_sameP (.bool true) rfl rfl rfl (fun _ w1 hp1 hI1 => plays_good hn (hS1 _ hI1.frm) hS hl) ?_; (refine gs ?_)
    refine gw ?_
    exact n_ret0 rfl rfl fun ids' w' hp hI' => ⟨rfl, hI'.frm⟩
  · refine n_sameP (.bool true) rfl rfl rfl (fun _ w1 hp1 hI1 => plays_bad (v := .nilIface) (by omega)) ?_; (refine gs ?_)
    refine gw ?_
    exact n_ret0 rfl rfl fun ids' w' hp hI' => ⟨rfl, hI'.frm⟩
theorem WheelLists_ok {n : Int} {o : Option Addr} {S : List Ac} {cap : Nat} {w : World} (hR : (acRes o S).R w) (hS : ∀ a ∈ S, i64 a.a) (hl : S.length ≤ 9223372036854775806) :
    Calls Try.prog 5 #[.int .i64 n, .slice o S.length cap] w fun e w' => e = .returned (.bool true) ∧ Frm [] w w' := by
  have hI := Inv.nil (P := Try.prog) (N := 8) (S := []) (os := []) w
  have hS1 : ∀ w1, Frm [] w w1 → (acRes o S).R w1 := fun w1 hf => (acRes o S).stable _ _ (fun k hk => hf.block k (rd_lt hR k hk) (by simp)) hR
  refine calls_sm (cx 8 [] [] w) (vals := [.int .i64 n, .raw (.slice o S.length cap)]) mixed Try.func5 rfl rfl rfl hI rfl (st rfl ?_); conv => arg 3; whnf
  refine gw ?_
  by_cases hn : 1 ≤ n ∧ n ≤ 64
  · refine n_sameP (.bool true) rfl rfl rfl (fun _ w1 hp1 hI1 => plays_good hn (hS1 _ hI1.frm) hS hl) ?_; (refine gs ?_)
    refine gw ?_
    exact n_ret0 rfl rfl fun ids' w' hp hI' => ⟨rfl, hI'.frm⟩
  · refine n_sameP (.bool true) rfl rfl rfl (fun _ w1 hp1 hI1 => plays_bad (v := .nilIface) (by omega)) ?_; (refine gs ?_)
    refine gw ?_
    exact n_ret0 rfl rfl fun ids' w' hp hI' => ⟨rfl, hI'.frm⟩
theorem WheelAll_ok {n : Int} {o : Option Addr} {S : List Ac} {cap : Nat} {w : World} (hR : (acRes o S).R w) (hS : ∀ a ∈ S, i64 a.a) (hl : S.length ≤ 9223372036854775806) :
    Calls Try.prog 6 #[.int .i64 n, .slice o S.length cap] w fun e w' => e = .returned (.bool true) ∧ Frm [] w w' := by
  have hI := Inv.nil (P := Try.prog) (N := 13) (S := []) (os := []) w
  have hS1 : ∀ w1, Frm [] w w1 → (acRes o S).R w1 := fun w1 hf => (acRes o S).stable _ _ (fun k hk => hf.block k (rd_lt hR k hk) (by simp)) hR
  refine calls_sm (cx 13 [] [] w) (vals := [.int .i64 n, .raw (.slice o S.length cap)]) mixed Try.func6 rfl rfl rfl hI rfl (st rfl ?_); conv => arg 3; whnf
  refine gw ?_
  by_cases hn : 1 ≤ n ∧ n ≤ 64
  · refine n_sameP (.bool true) rfl rfl rfl (fun _ w1 hp1 hI1 => plays_good hn (hS1 _ hI1.frm) hS hl) ?_; (refine gs ?_)
    refine gw ?_
    refine n_sameP (.bool true) rfl rfl rfl (fun _ w1 hp1 hI1 => plays_late hn (hS1 _ hI1.frm) hS hl) ?_; (refine gs ?_)
    refine gw ?_
    exact n_ret0 rfl rfl fun ids' w' hp hI' => ⟨rfl, hI'.frm⟩
  · refine n_sameP (.bool true) rfl rfl rfl (fun _ w1 hp1 hI1 => plays_bad (v := .nilIface) (by omega)) ?_; (refine gs ?_)
    refine gw ?_
    refine n_sameP (.bool true) rfl rfl rfl (fun _ w1 hp1 hI1 => plays_bad (v := .nilIface) (by omega)) ?_; (refine gs ?_)
    refine gw ?_
    exact n_ret0 rfl rfl fun ids' w' hp hI' => ⟨rfl, hI'.frm⟩
end Go.Proofs.Ytjmaddmklogchaa
