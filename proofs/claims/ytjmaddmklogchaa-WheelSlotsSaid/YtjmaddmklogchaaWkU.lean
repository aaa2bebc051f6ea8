/- Chapter 5's law: within, ticked. -/
import Derived.Test.YtjmaddmklogchaaWkO
set_option maxRecDepth 100000
set_option linter.unusedSimpArgs false
set_option linter.unusedVariables false
set_option maxHeartbeats 8000000
namespace Go.Proofs.Ytjmaddmklogchaa
open Go.RowKit

def withinF (x n : Int) : Int := 1 + (if x < 0 then -(x + 1) else x).tmod n
theorem within_le {x n : Int} (h : 1 ≤ n) : 1 ≤ withinF x n ∧ withinF x n ≤ n := by
  unfold withinF
  generalize hy : (if x < 0 then -(x + 1) else x) = y
  have hy0 : 0 ≤ y := by rw [← hy]; split <;> omega
  have h1 : y.tmod n = y % n := Int.tmod_eq_emod_of_nonneg hy0
  have h2 := Int.emod_nonneg y (show n ≠ 0 by omega)
  have h3 := Int.emod_lt_of_pos y (show 0 < n by omega)
  rw [h1]; omega
theorem within_ok (x n : Int) (hx : i64 x) (h1 : 1 ≤ n) (hn : n ≤ 1000000) (w : World) :
    Calls Try.prog 12 #[.int .i64 x, .int .i64 n] w fun e w' => e = .returned (.int .i64 (withinF x n)) ∧ Frm [] w w' := by
  have hI := Inv.nil (P := Try.prog) (N := 14) (S := []) (os := []) w
  have hb := within_le (x := x) h1
  have hn0 : ¬ n = 0 := by omega
  refine calls_sm (cx 14 [] [] w) (vals := [.int .i64 x, .int .i64 n]) mixed Try.func12 rfl rfl rfl hI rfl (st rfl ?_); conv => arg 3; whnf
  by_cases h : x < 0
  · have e2 : IntKind.i64.wrap (0 - IntKind.i64.wrap (x + 1)) = -(x + 1) := by rw [w64 (n := x + 1) (by omega) (by omega), w64 (by omega) (by omega)]; omega
    (repeat ((first | refine n_must rfl ?_ | refine n_chk (drawF_ok (by decide +kernel)) ?_ | refine n_same rfl ?_ | ((first | refine n_must ?_ ?_ | refine n_brT ?_ ?_); (focus (first | (simp [h, hn0]; done) | (simp [h, hn0]; omega) | (simp only [h, hn0]; simp; done)))) | (refine n_brF ?_ ?_; (focus (first | (simp [h, hn0]; done) | (simp [h, hn0]; omega) | (simp only [h, hn0]; simp; done)))) | refine n_must (by (with_reducible refine and_shape ?_) <;> kernel_rfl) ?_); (refine gs ?_)))
    refine n_ret0 rfl rfl fun ids' w' hp hI' => ⟨ret_int ?_, hI'.frm⟩
    have : withinF x n = 1 + (-(x + 1)).tmod n := by unfold withinF; rw [if_pos h]
    rw [e2, ← this]; exact w64 (by omega) (by omega)
  · (repeat ((first | refine n_must rfl ?_ | refine n_chk (drawF_ok (by decide +kernel)) ?_ | refine n_same rfl ?_ | ((first | refine n_must ?_ ?_ | refine n_brT ?_ ?_); (focus (first | (simp [h, hn0]; done) | (simp [h, hn0]; omega) | (simp only [h, hn0]; simp; done)))) | (refine n_brF ?_ ?_; (focus (first | (simp [h, hn0]; done) | (simp [h, hn0]; omega) | (simp only [h, hn0]; simp; done)))) | refine n_must (by (with_reducible refine and_shape ?_) <;> kernel_rfl) ?_); (refine gs ?_)))
    refine n_ret0 rfl rfl fun ids' w' hp hI' => ⟨ret_int ?_, hI'.frm⟩
    have : withinF x n = 1 + x.tmod n := by unfold withinF; rw [if_neg h]
    rw [← this]; exact w64 (by omega) (by omega)

/-! ### ticked -/
def tickF (s : Ws) (a : Ac) : Ws × Int × List Tm :=
  if a.k = 1 then (s.arm a.a a.b a.c, s.last + 1, [])
  else if a.k = 2 then (s.cancel a.a, (if s.has a.a then 1 else 0), [])
  else if a.k = 3 then (s.tick, s.now, s.due)
  else if a.k = 4 then (s, 0, listT s.A)
  else (s, 0, [])
structure Tk (p N : Nat) (W : Wh) (a : Ac) (w w' : World) (y : Wh × Option Addr × Nat) (e : Ending) : Prop where
  e : e = .returned (.tuple #[.int .i64 (tickF W.s a).2.1, .slice y.2.1 (tickF W.s a).2.2.length y.2.2])
  st : y.1.ok (N + 1) ∧ y.1.s = (tickF W.s a).1 ∧ y.1.n = W.n
  post : Post (whRes p W) ((whRes p y.1).both (tRow y.2.1 (tickF W.s a).2.2.length y.2.2 (tms (tickF W.s a).2.2))) w w'
  le : (tickF W.s a).2.2.length ≤ N
theorem ticked_ok {p N : Nat} {W : Wh} {a : Ac} {w : World} (hW : W.ok N) (hN : N ≤ 100000) (ha : i64 a.a) (hR : (whRes p W).R w) :
    Calls Try.prog 13 #[pV p, a.val] w fun e w' => ∃ y : Wh × Option Addr × Nat, Tk p N W a w w' y e := by
  have hI : Inv (cx 34 [] (whRes p W).fp w) w [0] [⟨58, [.res (whRes p W)], true⟩] := (Inv.nil w).consR (by simp) hR (memRes_lt hR) (by simp)
  have hAl := hW.s.len
  have hdl : W.s.due.length ≤ N := Nat.le_trans (List.length_filter_le _ _) hAl
  have hll : (listT W.s.A).length ≤ N := by rw [(listT_ok hW.s.up).1.length_eq]; exact hAl
  refine calls_sm (cx 34 [] (whRes p W).fp w) (vals := [.raw (pV p), .agg a.sv]) mixed Try.func13 rfl rfl rfl hI rfl (st rfl ?_); conv => arg 3; whnf
  refine gw ?_
  by_cases h1 : a.k = 1
  · have eF : tickF W.s a = (W.s.arm a.a a.b a.c, W.s.last + 1, []) := by unfold tickF; rw [if_pos h1]
    (repeat ((first | refine n_must rfl ?_ | refine n_chk (drawF_ok (by decide +kernel)) ?_ | refine n_same rfl ?_ | ((first | refine n_must ?_ ?_ | refine n_brT ?_ ?_); (focus (first | (simp [h1]; done) | (simp [h1]; omega) | (simp only [h1]; simp; done)))) | (refine n_brF ?_ ?_; (focus (first | (simp [h1]; done) | (simp [h1]; omega) | (simp only [h1]; simp; done)))) | refine n_must (by (with_reducible refine and_shape ?_) <;> kernel_rfl) ?_); (refine gs ?_)))
    refine n_callR (Y := Wh) 0 (fun W' => whRes p W') (fun _ => .int .i64 (W.s.last + 1)) (fun _ => .int .i64 (W.s.last + 1)) (fun W' => W'.ok (N + 1) ∧ W'.s = W.s.arm a.a a.b a.c ∧ W'.n = W.n) rfl rfl (fun _ => rfl) rfl rfl rfl (fun _ w1 _ hI1 hR1 => wArm_ok hW (by omega) hR1) ?_
    rintro W' ⟨o1, o2, o3⟩
    (refine gs ?_)
    refine gw ?_
    refine n_ret0 rfl rfl fun ids' w' hp hI' => ⟨(W', none, 0), by rw [eF]; rfl, by rw [eF]; exact ⟨o1, o2, o3⟩, ?_, by rw [eF]; simp⟩
    rw [eF]
    have h1 := hI'.addR (Frm.refl [] w') (tRow none 0 0 []) 54 true (rowRes_nil _ _ _) (by simp [rowRes]) (by simp [rowRes])
    have h2 := h1.absorb 0 2 (by decide) rfl rfl rfl rfl rfl rfl
    exact post_res (ρ := whRes p W) h2 rfl 0 rfl rfl rfl
  by_cases h2 : a.k = 2
  · have eF : tickF W.s a = (W.s.cancel a.a, (if W.s.has a.a then 1 else 0), []) := by unfold tickF; rw [if_neg h1, if_pos h2]
    (repeat ((first | refine n_must rfl ?_ | refine n_chk (drawF_ok (by decide +kernel)) ?_ | refine n_same rfl ?_ | ((first | refine n_must ?_ ?_ | refine n_brT ?_ ?_); (focus (first | (simp [h1, h2]; done) | (simp [h1, h2]; omega) | (simp only [h1, h2]; simp; done)))) | (refine n_brF ?_ ?_; (focus (first | (simp [h1, h2]; done) | (simp [h1, h2]; omega) | (simp only [h1, h2]; simp; done)))) | refine n_must (by (with_reducible refine and_shape ?_) <;> kernel_rfl) ?_); (refine gs ?_)))
    refine n_callR (Y := Wh) 0 (fun W' => whRes p W') (fun _ => .bool (W.s.has a.a)) (fun _ => .bool (W.s.has a.a)) (fun W' => W'.ok N ∧ W'.s = W.s.cancel a.a ∧ W'.n = W.n) rfl rfl (fun _ => rfl) rfl rfl rfl (fun _ w1 _ hI1 hR1 => wCancel_ok hW (by omega) ha hR1) ?_
    rintro W' ⟨o1, o2, o3⟩
    have o4 : W'.ok (N + 1) := ⟨o1.n, o1.s.mono (by omega), o1.nd, o1.pl⟩
    (refine gs ?_)
    by_cases hb : W.s.has a.a = true
    · (repeat ((first | refine n_must rfl ?_ | refine n_chk (drawF_ok (by decide +kernel)) ?_ | refine n_same rfl ?_ | ((first | refine n_must ?_ ?_ | refine n_brT ?_ ?_); (focus (first | (simp [hb]; done) | (simp [hb]; omega) | (simp only [hb]; simp; done)))) | (refine n_brF ?_ ?_; (focus (first | (simp [hb]; done) | (simp [hb]; omega) | (simp only [hb]; simp; done)))) | refine n_must (by (with_reducible refine and_shape ?_) <;> kernel_rfl) ?_); (refine gs ?_)))
      refine n_ret0 rfl rfl fun ids' w' hp hI' => ⟨(W', none, 0), by rw [eF, if_pos hb]; rfl, by rw [eF]; exact ⟨o4, o2, o3⟩, ?_, by rw [eF]; simp⟩
      rw [eF]
      have h1 := hI'.addR (Frm.refl [] w') (tRow none 0 0 []) 54 true (rowRes_nil _ _ _) (by simp [rowRes]) (by simp [rowRes])
      have h2 := h1.absorb 0 2 (by decide) rfl rfl rfl rfl rfl rfl
      exact post_res (ρ := whRes p W) h2 rfl 0 rfl rfl rfl
    · (repeat ((first | refine n_must rfl ?_ | refine n_chk (drawF_ok (by decide +kernel)) ?_ | refine n_same rfl ?_ | ((first | refine n_must ?_ ?_ | refine n_brT ?_ ?_); (focus (first | (simp [hb]; done) | (simp [hb]; omega) | (simp only [hb]; simp; done)))) | (refine n_brF ?_ ?_; (focus (first | (simp [hb]; done) | (simp [hb]; omega) | (simp only [hb]; simp; done)))) | refine n_must (by (with_reducible refine and_shape ?_) <;> kernel_rfl) ?_); (refine gs ?_)))
      refine n_ret0 rfl rfl fun ids' w' hp hI' => ⟨(W', none, 0), by rw [eF, if_neg hb]; rfl, by rw [eF]; exact ⟨o4, o2, o3⟩, ?_, by rw [eF]; simp⟩
      rw [eF]
      have h1 := hI'.addR (Frm.refl [] w') (tRow none 0 0 []) 54 true (rowRes_nil _ _ _) (by simp [rowRes]) (by simp [rowRes])
      have h2 := h1.absorb 0 2 (by decide) rfl rfl rfl rfl rfl rfl
      exact post_res (ρ := whRes p W) h2 rfl 0 rfl rfl rfl
  by_cases h3 : a.k = 3
  · have eF : tickF W.s a = (W.s.tick, W.s.now, W.s.due) := by unfold tickF; rw [if_neg h1, if_neg h2, if_pos h3]
    (repeat ((first | refine n_must rfl ?_ | refine n_chk (drawF_ok (by decide +kernel)) ?_ | refine n_same rfl ?_ | ((first | refine n_must ?_ ?_ | refine n_brT ?_ ?_); (focus (first | (simp [h1, h2, h3]; done) | (simp [h1, h2, h3]; omega) | (simp only [h1, h2, h3]; simp; done)))) | (refine n_brF ?_ ?_; (focus (first | (simp [h1, h2, h3]; done) | (simp [h1, h2, h3]; omega) | (simp only [h1, h2, h3]; simp; done)))) | refine n_must (by (with_reducible refine and_shape ?_) <;> kernel_rfl) ?_); (refine gs ?_)))
    refine n_sameP (.int .i64 W.s.now) rfl rfl rfl (fun _ w1 hp1 hI1 => wNow_ok (hI1.res 0 rfl rfl)) ?_; (refine gs ?_)
    refine gw ?_
    refine n_callR (Y := Wh × Option Addr × Nat) 0 (fun y => (whRes p y.1).both (tRow y.2.1 W.s.due.length y.2.2 (tms W.s.due))) (fun y => .raw (.slice y.2.1 W.s.due.length y.2.2)) (fun y => .slice y.2.1 W.s.due.length y.2.2) (fun y => y.1.ok (N + 1) ∧ y.1.s = W.s.tick ∧ y.1.n = W.n) rfl rfl (fun _ => rfl) rfl rfl rfl (fun _ w1 _ hI1 hR1 => wTick_ok hW (by omega) hR1) ?_
    rintro ⟨W', o, c⟩ ⟨o1, o2, o3⟩
    dsimp only at o1 o2 o3 ⊢
    (refine gs ?_)
    refine gw ?_
    refine n_ret0 rfl rfl fun ids' w' hp hI' => ⟨(W', o, c), by rw [eF], by rw [eF]; exact ⟨o1, o2, o3⟩, ?_, by rw [eF]; exact hdl⟩
    rw [eF]
    exact post_res (ρ := whRes p W) hI' rfl 0 rfl rfl rfl
  have o4 : W.ok (N + 1) := ⟨hW.n, hW.s.mono (by omega), hW.nd, hW.pl⟩
  by_cases h4 : a.k = 4
  · have eF : tickF W.s a = (W.s, 0, listT W.s.A) := by unfold tickF; rw [if_neg h1, if_neg h2, if_neg h3, if_pos h4]
    (repeat ((first | refine n_must rfl ?_ | refine n_chk (drawF_ok (by decide +kernel)) ?_ | refine n_same rfl ?_ | ((first | refine n_must ?_ ?_ | refine n_brT ?_ ?_); (focus (first | (simp [h1, h2, h3, h4]; done) | (simp [h1, h2, h3, h4]; omega) | (simp only [h1, h2, h3, h4]; simp; done)))) | (refine n_brF ?_ ?_; (focus (first | (simp [h1, h2, h3, h4]; done) | (simp [h1, h2, h3, h4]; omega) | (simp only [h1, h2, h3, h4]; simp; done)))) | refine n_must (by (with_reducible refine and_shape ?_) <;> kernel_rfl) ?_); (refine gs ?_)))
    refine n_call1 rfl fun b3 => ?_
    refine n_callN (fun y : Option Addr × Nat => tRow y.1 (listT W.s.A).length y.2 (tms (listT W.s.A))) 54 (fun y => .raw (.slice y.1 (listT W.s.A).length y.2)) (fun y => .slice y.1 (listT W.s.A).length y.2) (fun _ => True) rfl rfl rfl (fun _ => rfl) (fun w1 hI1 => wList_ok hW (by omega) (hI1.res 0 rfl rfl)) ?_
    rintro ⟨o, c⟩ _ _
    (refine gs ?_)
    refine gw ?_
    refine n_ret0 rfl rfl fun ids' w' hp hI' => ⟨(W, o, c), by rw [eF], by rw [eF]; exact ⟨o4, rfl, rfl⟩, ?_, by rw [eF]; exact hll⟩
    rw [eF]
    exact post_res (ρ := whRes p W) (hI'.absorb 0 2 (by decide) rfl rfl rfl rfl rfl rfl) rfl 0 rfl rfl rfl
  have eF : tickF W.s a = (W.s, 0, []) := by unfold tickF; rw [if_neg h1, if_neg h2, if_neg h3, if_neg h4]
  (repeat ((first | refine n_must rfl ?_ | refine n_chk (drawF_ok (by decide +kernel)) ?_ | refine n_same rfl ?_ | ((first | refine n_must ?_ ?_ | refine n_brT ?_ ?_); (focus (first | (simp [h1, h2, h3, h4]; done) | (simp [h1, h2, h3, h4]; omega) | (simp only [h1, h2, h3, h4]; simp; done)))) | (refine n_brF ?_ ?_; (focus (first | (simp [h1, h2, h3, h4]; done) | (simp [h1, h2, h3, h4]; omega) | (simp only [h1, h2, h3, h4]; simp; done)))) | refine n_must (by (with_reducible refine and_shape ?_) <;> kernel_rfl) ?_); (refine gs ?_)))
  refine n_ret0 rfl rfl fun ids' w' hp hI' => ⟨(W, none, 0), by rw [eF]; rfl, by rw [eF]; exact ⟨o4, rfl, rfl⟩, ?_, by rw [eF]; simp⟩
  rw [eF]
  have h1 := hI'.addR (Frm.refl [] w') (tRow none 0 0 []) 54 true (rowRes_nil _ _ _) (by simp [rowRes]) (by simp [rowRes])
  have h2 := h1.absorb 0 2 (by decide) rfl rfl rfl rfl rfl rfl
  exact post_res (ρ := whRes p W) h2 rfl 0 rfl rfl rfl
end Go.Proofs.Ytjmaddmklogchaa
