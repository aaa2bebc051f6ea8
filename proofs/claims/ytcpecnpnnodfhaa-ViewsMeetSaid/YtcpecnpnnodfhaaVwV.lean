/- The document's views: About, Known. -/
import Derived.Test.YtcpecnpnnodfhaaVwU
set_option maxRecDepth 100000
set_option linter.unusedSimpArgs false
set_option linter.unusedVariables false
set_option maxHeartbeats 4000000
namespace Go.Proofs.Ytcpecnpnnodfhaa
open Go.RowKit

def rAboutD (All : List (Int × Vw)) (nm : ByteArray) : Nat → Int
  | 0 => 0
  | n + 1 => rAboutD All nm n + (lastF All (n : Int) nm).d
def rAboutB (All : List (Int × Vw)) (nm : ByteArray) : Nat → Bool
  | 0 => false
  | n + 1 => rAboutB All nm n || decide (0 < (lastF All (n : Int) nm).ver)

theorem rAbout_ok {p : Nat} {o : Option Addr} {cap n : Nat} {s : Rv} {w : World} (hR : (rvRes p o cap s).R w) (hl : s.All.length ≤ 100000) (hn : s.n = (n : Int)) (hn2 : n ≤ 1000) (nm : ByteArray) :
    Calls Try.prog 38 #[pV p, .string nm] w fun e w' => e = .returned (.tuple #[.int .i64 (wr (rAboutD s.All nm n)), .bool (rAboutB s.All nm n)]) ∧ Frm [] w w' := by
  have hI : Inv (cx 35 [] [] w) w [p, 0] (ro (rvMem o cap s)) := memRes_read hR
  refine calls_sm (cx 35 [] [] w) (vals := [.ptr 0 0, .str nm]) mixed Try.func38 rfl rfl rfl hI rfl (st rfl ?_); conv => arg 3; whnf
  refine gg ?_
  refine n_loop (σ := Nat × SV) (fun t => [(0, .ptr 0 0), (1, .str nm), (6, .int .i64 (wr (rAboutD s.All nm t.1))), (7, t.2), (8, .int .i64 (t.1 : Nat))]) (fun _ => ro (rvMem o cap s)) (fun t => t.1 ≤ n ∧ (t.2 = .lit (rAboutB s.All nm t.1) ∨ t.2 = .bool (rAboutB s.All nm t.1))) (fun t => n - t.1) (0, .lit false) mixed (by simp [rAboutB]) (fun _ _ => rfl) rfl (by (repeat (first | exact trivial | refine ⟨⟨rfl, rfl⟩, ?_⟩))) (fun t ht => ⟨by obtain ⟨k, sv⟩ := t; obtain ⟨_, h | h⟩ := ht <;> dsimp only at h <;> subst h <;> (repeat (first | exact trivial | refine ⟨⟨_, rfl⟩, ?_⟩)), by (repeat (first | exact trivial | refine ⟨⟨_, rfl⟩, ?_⟩))⟩) fun t hJ => ?_
  obtain ⟨k, sv⟩ := t
  obtain ⟨hk, hsv⟩ := hJ
  dsimp only at hk hsv ⊢
  by_cases hlt : k < n
  · have ei : IntKind.i64.wrap ((k : Int) + 1) = ((k + 1 : Nat) : Int) := by rw [w64 (by omega) (by omega)]; simp
    have hks : (k : Int) < s.n := by omega
    have eD : IntKind.i64.wrap (wr (rAboutD s.All nm k) + (lastF s.All (k : Int) nm).d) = wr (rAboutD s.All nm (k + 1)) := wr_add _ _
    have eB : rAboutB s.All nm (k + 1) = (rAboutB s.All nm k || decide (0 < (lastF s.All (k : Int) nm).ver)) := rfl
    rcases hsv with rfl | rfl
    · cases hb : rAboutB s.All nm k with
      | true =>
        (refine gs ?_)
        (repeat ((first | refine n_must rfl ?_ | refine n_chk (drawF_ok (by decide +kernel)) ?_ | refine n_same rfl ?_ | ((first | refine n_must ?_ ?_ | refine n_brT ?_ ?_); (focus (first | (simp [hks]; done) | (simp [hks]; omega) | (simp only [hks]; simp; done)))) | (refine n_brF ?_ ?_; (focus (first | (simp [hks]; done) | (simp [hks]; omega) | (simp only [hks]; simp; done)))) | refine n_must (by (with_reducible refine and_shape ?_) <;> kernel_rfl) ?_); (refine gs ?_)))
        refine n_sameP (.agg (lastF s.All (k : Int) nm).sv) rfl rfl rfl (fun _ w1 hp1 hI1 => last_ok (rv_at hI1 0 rfl rfl (pre_at hp1 rfl)) (by omega) (k : Int) nm) ?_; (refine gs ?_)
        refine gg ?_
        exact n_again ⟨(k + 1, .lit true), ⟨by dsimp only; omega, by dsimp only; rw [eB, hb]; simp⟩, by dsimp only; omega, (by (repeat (first | exact trivial | refine ⟨⟨rfl, rfl⟩, ?_⟩ | refine ⟨⟨rfl, congrArg (SV.int .i64) ei⟩, ?_⟩ | refine ⟨⟨rfl, congrArg (SV.int .i64) eD⟩, ?_⟩))), ⟨_, rfl⟩⟩
      | false =>
        (refine gs ?_)
        (repeat ((first | refine n_must rfl ?_ | refine n_chk (drawF_ok (by decide +kernel)) ?_ | refine n_same rfl ?_ | ((first | refine n_must ?_ ?_ | refine n_brT ?_ ?_); (focus (first | (simp [hks]; done) | (simp [hks]; omega) | (simp only [hks]; simp; done)))) | (refine n_brF ?_ ?_; (focus (first | (simp [hks]; done) | (simp [hks]; omega) | (simp only [hks]; simp; done)))) | refine n_must (by (with_reducible refine and_shape ?_) <;> kernel_rfl) ?_); (refine gs ?_)))
        refine n_sameP (.agg (lastF s.All (k : Int) nm).sv) rfl rfl rfl (fun _ w1 hp1 hI1 => last_ok (rv_at hI1 0 rfl rfl (pre_at hp1 rfl)) (by omega) (k : Int) nm) ?_; (refine gs ?_)
        refine gg ?_
        exact n_again ⟨(k + 1, .bool (decide (0 < (lastF s.All (k : Int) nm).ver))), ⟨by dsimp only; omega, by dsimp only; rw [eB, hb]; simp⟩, by dsimp only; omega, (by (repeat (first | exact trivial | refine ⟨⟨rfl, rfl⟩, ?_⟩ | refine ⟨⟨rfl, congrArg (SV.int .i64) ei⟩, ?_⟩ | refine ⟨⟨rfl, congrArg (SV.int .i64) eD⟩, ?_⟩))), ⟨_, rfl⟩⟩
    · cases hb : rAboutB s.All nm k with
      | true =>
        (refine gs ?_)
        (repeat ((first | refine n_must rfl ?_ | refine n_chk (drawF_ok (by decide +kernel)) ?_ | refine n_same rfl ?_ | ((first | refine n_must ?_ ?_ | refine n_brT ?_ ?_); (focus (first | (simp [hks]; done) | (simp [hks]; omega) | (simp only [hks]; simp; done)))) | (refine n_brF ?_ ?_; (focus (first | (simp [hks]; done) | (simp [hks]; omega) | (simp only [hks]; simp; done)))) | refine n_must (by (with_reducible refine and_shape ?_) <;> kernel_rfl) ?_); (refine gs ?_)))
        refine n_sameP (.agg (lastF s.All (k : Int) nm).sv) rfl rfl rfl (fun _ w1 hp1 hI1 => last_ok (rv_at hI1 0 rfl rfl (pre_at hp1 rfl)) (by omega) (k : Int) nm) ?_; (refine gs ?_)
        refine gg ?_
        refine gw ?_
        exact n_again ⟨(k + 1, .lit true), ⟨by dsimp only; omega, by dsimp only; rw [eB, hb]; simp⟩, by dsimp only; omega, (by (repeat (first | exact trivial | refine ⟨⟨rfl, rfl⟩, ?_⟩ | refine ⟨⟨rfl, congrArg (SV.int .i64) ei⟩, ?_⟩ | refine ⟨⟨rfl, congrArg (SV.int .i64) eD⟩, ?_⟩))), ⟨_, rfl⟩⟩
      | false =>
        (refine gs ?_)
        (repeat ((first | refine n_must rfl ?_ | refine n_chk (drawF_ok (by decide +kernel)) ?_ | refine n_same rfl ?_ | ((first | refine n_must ?_ ?_ | refine n_brT ?_ ?_); (focus (first | (simp [hks]; done) | (simp [hks]; omega) | (simp only [hks]; simp; done)))) | (refine n_brF ?_ ?_; (focus (first | (simp [hks]; done) | (simp [hks]; omega) | (simp only [hks]; simp; done)))) | refine n_must (by (with_reducible refine and_shape ?_) <;> kernel_rfl) ?_); (refine gs ?_)))
        refine n_sameP (.agg (lastF s.All (k : Int) nm).sv) rfl rfl rfl (fun _ w1 hp1 hI1 => last_ok (rv_at hI1 0 rfl rfl (pre_at hp1 rfl)) (by omega) (k : Int) nm) ?_; (refine gs ?_)
        refine gg ?_
        refine gw ?_
        exact n_again ⟨(k + 1, .bool (decide (0 < (lastF s.All (k : Int) nm).ver))), ⟨by dsimp only; omega, by dsimp only; rw [eB, hb]; simp⟩, by dsimp only; omega, (by (repeat (first | exact trivial | refine ⟨⟨rfl, rfl⟩, ?_⟩ | refine ⟨⟨rfl, congrArg (SV.int .i64) ei⟩, ?_⟩ | refine ⟨⟨rfl, congrArg (SV.int .i64) eD⟩, ?_⟩))), ⟨_, rfl⟩⟩
  · obtain rfl : k = n := by omega
    have hks : ¬ (k : Int) < s.n := by omega
    rcases hsv with rfl | rfl
    · cases hb : rAboutB s.All nm k <;>
      · (refine gs ?_)
        (repeat ((first | refine n_must rfl ?_ | refine n_chk (drawF_ok (by decide +kernel)) ?_ | refine n_same rfl ?_ | ((first | refine n_must ?_ ?_ | refine n_brT ?_ ?_); (focus (first | (simp [hks]; done) | (simp [hks]; omega) | (simp only [hks]; simp; done)))) | (refine n_brF ?_ ?_; (focus (first | (simp [hks]; done) | (simp [hks]; omega) | (simp only [hks]; simp; done)))) | refine n_must (by (with_reducible refine and_shape ?_) <;> kernel_rfl) ?_); (refine gs ?_)))
        refine n_exit rfl ?_
        (refine gs ?_)
        refine gw ?_
        exact n_ret0 rfl rfl fun ids' w' hp hI' => ⟨rfl, hI'.frm⟩
    · (refine gs ?_)
      (repeat ((first | refine n_must rfl ?_ | refine n_chk (drawF_ok (by decide +kernel)) ?_ | refine n_same rfl ?_ | ((first | refine n_must ?_ ?_ | refine n_brT ?_ ?_); (focus (first | (simp [hks]; done) | (simp [hks]; omega) | (simp only [hks]; simp; done)))) | (refine n_brF ?_ ?_; (focus (first | (simp [hks]; done) | (simp [hks]; omega) | (simp only [hks]; simp; done)))) | refine n_must (by (with_reducible refine and_shape ?_) <;> kernel_rfl) ?_); (refine gs ?_)))
      refine n_exit rfl ?_
      (refine gs ?_)
      refine gw ?_
      exact n_ret0 rfl rfl fun ids' w' hp hI' => ⟨rfl, hI'.frm⟩

/-! ### Known -/
theorem elemRt : sliceElem Try.prog 45 = some 47 := by kernel_rfl
def rKnownF (All : List (Int × Vw)) (nm : ByteArray) (i : Nat) : Int × Int := ((lastF All (i : Int) nm).d, (lastF All (i : Int) nm).u)
def rKnownL (All : List (Int × Vw)) (nm : ByteArray) (n : Nat) : List (Int × Int) := (List.range n).map (rKnownF All nm)
theorem rKnownL_next (All : List (Int × Vw)) (nm : ByteArray) (n : Nat) : rKnownL All nm (n + 1) = rKnownL All nm n ++ [rKnownF All nm n] := by
  unfold rKnownL
  rw [List.range_succ, List.map_append]
  rfl
theorem rKnown_ok {p : Nat} {o : Option Addr} {cap n : Nat} {s : Rv} {w : World} (hR : (rvRes p o cap s).R w) (hl : s.All.length ≤ 100000) (hn : s.n = (n : Int)) (hn2 : n ≤ 1000) (nm : ByteArray) :
    Calls Try.prog 55 #[pV p, .string nm] w fun e w' => ∃ y : Option Addr × Nat, e = .returned (.slice y.1 n y.2) ∧ True ∧ FreshR w w' (rowRes 47 2 y.1 n y.2 ((rKnownL s.All nm n).flatMap rtL)) := by
  obtain ⟨it, hit, hparts⟩ := Option.map_eq_some_iff.1 rtInfo
  simp only [Prod.mk.injEq] at hparts
  have hI0 : Inv (cx 24 [] [] w) w [p, 0] (ro (rvMem o cap s)) := memRes_read hR
  have hI := hI0.consR (t := 47) (rw_ := true) (r := rowRes 47 2 none 0 0 []) (by simp [rowRes]) (rowRes_nil _ _ _) (by simp [rowRes]) (by simp [rowRes])
  refine calls_sm (cx 24 [] [] w) (vals := [.ptr 0 0, .str nm]) mixed Try.func55 rfl rfl rfl hI rfl (st rfl ?_); conv => arg 3; whnf
  refine gg ?_
  refine n_loop (σ := Nat × Option Addr × Nat) (fun t => [(0, .ptr 0 0), (1, .str nm), (5, .raw (.slice t.2.1 t.1 t.2.2)), (6, .int .i64 (t.1 : Nat))]) (fun t => ro (rvMem o cap s) ++ [⟨47, [.res (rowRes 47 2 t.2.1 t.1 t.2.2 ((rKnownL s.All nm t.1).flatMap rtL))], true⟩]) (fun t => t.1 ≤ n) (fun t => n - t.1) (0, none, 0) mixed (by simp) (fun _ _ => rfl) rfl (by (repeat (first | exact trivial | refine ⟨⟨rfl, rfl⟩, ?_⟩))) (fun s _ => ⟨by (repeat (first | exact trivial | refine ⟨⟨_, rfl⟩, ?_⟩)), by (repeat (first | exact trivial | refine ⟨⟨_, rfl⟩, ?_⟩))⟩) fun t hk => ?_
  obtain ⟨k, oa, ca⟩ := t
  dsimp only at hk ⊢
  (refine gs ?_)
  by_cases hlt : k < n
  · have ei : IntKind.i64.wrap ((k : Int) + 1) = ((k + 1 : Nat) : Int) := by rw [w64 (by omega) (by omega)]; simp
    have hks : (k : Int) < s.n := by omega
    (repeat ((first | refine n_must rfl ?_ | refine n_chk (drawF_ok (by decide +kernel)) ?_ | refine n_same rfl ?_ | ((first | refine n_must ?_ ?_ | refine n_brT ?_ ?_); (focus (first | (simp [hks]; done) | (simp [hks]; omega) | (simp only [hks]; simp; done)))) | (refine n_brF ?_ ?_; (focus (first | (simp [hks]; done) | (simp [hks]; omega) | (simp only [hks]; simp; done)))) | refine n_must (by (with_reducible refine and_shape ?_) <;> kernel_rfl) ?_); (refine gs ?_)))
    refine n_sameP (.agg (lastF s.All (k : Int) nm).sv) rfl rfl rfl (fun _ w1 hp1 hI1 => last_ok (rv_at hI1 0 rfl rfl (pre_at hp1 rfl)) (by omega) (k : Int) nm) ?_; (refine gs ?_)
    refine gw ?_
    refine n_build1 rfl rfl elemRt rfl rfl rfl rfl rfl rfl rfl rfl rfl ?_
    (refine gs ?_)
    refine gw ?_
    refine n_append (nv := rtL (rKnownF s.All nm k)) 2 rfl rfl elemRt hit hparts.1 hparts.2.1 hparts.2.2 rfl (by omega) rfl rfl rfl rfl rfl rfl (by omega) (by simp [Value.oneCell']) (by omega) (by omega) (show (rKnownL s.All nm k).flatMap rtL ++ rtL (rKnownF s.All nm k) = (rKnownL s.All nm (k + 1)).flatMap rtL by rw [rKnownL_next]; simp) fun g' ca' => ?_
    (refine gs ?_)
    refine gw ?_
    exact n_again ⟨(k + 1, some ⟨g', 0, none⟩, ca'), by dsimp only; omega, by dsimp only; omega, (by (repeat (first | exact trivial | refine ⟨⟨rfl, rfl⟩, ?_⟩ | refine ⟨⟨rfl, congrArg (SV.int .i64) ei⟩, ?_⟩))), ⟨_, rfl⟩⟩
  · obtain rfl : k = n := by omega
    have hks : ¬ (k : Int) < s.n := by omega
    (repeat ((first | refine n_must rfl ?_ | refine n_chk (drawF_ok (by decide +kernel)) ?_ | refine n_same rfl ?_ | ((first | refine n_must ?_ ?_ | refine n_brT ?_ ?_); (focus (first | (simp [hks]; done) | (simp [hks]; omega) | (simp only [hks]; simp; done)))) | (refine n_brF ?_ ?_; (focus (first | (simp [hks]; done) | (simp [hks]; omega) | (simp only [hks]; simp; done)))) | refine n_must (by (with_reducible refine and_shape ?_) <;> kernel_rfl) ?_); (refine gs ?_)))
    refine n_exit rfl ?_
    (refine gs ?_)
    refine gw ?_
    exact n_ret0 rfl rfl fun ids' w' hp hI' => ⟨⟨oa, ca⟩, rfl, trivial, hI'.frm, hI'.res 2 rfl rfl, hI'.res_new 2 rfl rfl rfl (by simp), hI'.resLt 2 rfl rfl⟩
end Go.Proofs.Ytcpecnpnnodfhaa
