/- sluiceref5: one list: New, Arm, split, Tick, Cancel. -/
import Derived.Test.YtjmaddmklogchaaWkH
set_option maxRecDepth 100000
set_option linter.unusedSimpArgs false
set_option linter.unusedVariables false
set_option maxHeartbeats 8000000
namespace Go.Proofs.Ytjmaddmklogchaa
open Go.RowKit

structure Rf where
  o : Option Addr
  cap : Nat
  s : Ws
abbrev rfMem (R : Rf) : Mem := [⟨66, [.int .i64 R.s.now, .int .i64 R.s.last, .raw (.slice R.o R.s.A.length R.cap)], true⟩, ⟨54, [.res (tRow R.o R.s.A.length R.cap (tms R.s.A))], true⟩]
abbrev rfRes (q : Nat) (R : Rf) : Res := memRes [q, 0] (rfMem R)
theorem rNew_ok (n : Int) (w : World) (hn : 1 ≤ n ∧ n ≤ 64) : Calls Try.prog 20 #[.int .i64 n] w fun e w' => ∃ y : Nat, e = .returned (.tuple #[pV y, .int .i64 0]) ∧ True ∧ FreshR w w' (rfRes y ⟨none, 0, ⟨[], 0, 0⟩⟩) := by
  have hI0 := Inv.nil (P := Try.prog) (N := 12) (S := []) (os := []) w
  have hI := hI0.consR (t := 54) (rw_ := true) (r := tRow none 0 0 []) (by simp [rowRes]) (rowRes_nil _ _ _) (by simp [rowRes]) (by simp [rowRes])
  refine calls_sm (cx 12 [] [] w) (vals := [.int .i64 n]) mixed Try.func20 rfl rfl rfl hI rfl (st rfl ?_); conv => arg 3; whnf
  have h1 : ¬ n < 1 := by omega
  have h2 : ¬ 64 < n := by omega
  (repeat ((first | refine n_must rfl ?_ | refine n_chk (drawF_ok (by decide +kernel)) ?_ | refine n_same rfl ?_ | ((first | refine n_must ?_ ?_ | refine n_brT ?_ ?_); (focus (first | (simp [h1, h2]; done) | (simp [h1, h2]; omega) | (simp only [h1, h2]; simp; done)))) | (refine n_brF ?_ ?_; (focus (first | (simp [h1, h2]; done) | (simp [h1, h2]; omega) | (simp only [h1, h2]; simp; done)))) | refine n_must (by (with_reducible refine and_shape ?_) <;> kernel_rfl) ?_); (refine gs ?_)))
  refine n_ret rfl fun ids' w' hp hI' => ?_
  obtain ⟨q, rfl⟩ := ext1 hp (by rw [hI'.len]; rfl)
  obtain ⟨f1, f2, f3, f4⟩ := fresh_shut (ids := [q, 0]) (mem := rfMem ⟨none, 0, ⟨[], 0, 0⟩⟩) hI' rfl [1, 0] (.blk rfl rfl rfl rfl (.res rfl .nil)) (by decide)
  exact ⟨_, rfl, q, rfl, trivial, f1, f2, f3, f4⟩
theorem rNewBad_ok (n : Int) (w : World) (hn : n < 1 ∨ 64 < n) : Calls Try.prog 20 #[.int .i64 n] w fun e w' => e = .returned (.tuple #[.pointer none, .int .i64 1]) ∧ Frm [] w w' := by
  have hI := Inv.nil (P := Try.prog) (N := 12) (S := []) (os := []) w
  refine calls_sm (cx 12 [] [] w) (vals := [.int .i64 n]) mixed Try.func20 rfl rfl rfl hI rfl (st rfl ?_); conv => arg 3; whnf
  by_cases h1 : n < 1
  · (repeat ((first | refine n_must rfl ?_ | refine n_chk (drawF_ok (by decide +kernel)) ?_ | refine n_same rfl ?_ | ((first | refine n_must ?_ ?_ | refine n_brT ?_ ?_); (focus (first | (simp [h1]; done) | (simp [h1]; omega) | (simp only [h1]; simp; done)))) | (refine n_brF ?_ ?_; (focus (first | (simp [h1]; done) | (simp [h1]; omega) | (simp only [h1]; simp; done)))) | refine n_must (by (with_reducible refine and_shape ?_) <;> kernel_rfl) ?_); (refine gs ?_)))
    exact n_ret0 rfl rfl fun ids' w' hp hI' => ⟨rfl, hI'.frm⟩
  have h2 : 64 < n := by omega
  (repeat ((first | refine n_must rfl ?_ | refine n_chk (drawF_ok (by decide +kernel)) ?_ | refine n_same rfl ?_ | ((first | refine n_must ?_ ?_ | refine n_brT ?_ ?_); (focus (first | (simp [h1, h2]; done) | (simp [h1, h2]; omega) | (simp only [h1, h2]; simp; done)))) | (refine n_brF ?_ ?_; (focus (first | (simp [h1, h2]; done) | (simp [h1, h2]; omega) | (simp only [h1, h2]; simp; done)))) | refine n_must (by (with_reducible refine and_shape ?_) <;> kernel_rfl) ?_); (refine gs ?_)))
  exact n_ret0 rfl rfl fun ids' w' hp hI' => ⟨rfl, hI'.frm⟩
theorem rArm_ok {q : Nat} {R : Rf} {N : Nat} {d k i : Int} {w : World} (hW : R.s.ok N) (hN : N ≤ 1000000) (hR : (rfRes q R).R w) :
    Calls Try.prog 31 #[pV q, .int .i64 d, .int .i64 k, .int .i64 i] w fun e w' => ∃ R' : Rf, e = .returned (.int .i64 (R.s.last + 1)) ∧ R'.s = R.s.arm d k i ∧ Post (rfRes q R) (rfRes q R') w w' := by
  have hnow := hW.now
  have hlast := hW.last
  have hlen := hW.len
  have hd := delayF_in d
  have hI : Inv (cx 46 [(6, .of [(0, []), (1, []), (2, []), (3, []), (4, []), (5, []), (6, []), (7, []), (8, []), (9, []), (10, []), (11, []), (12, []), (13, []), (14, []), (15, []), (16, []), (17, []), (18, [4]), (19, []), (20, []), (21, []), (22, [])])] (rfRes q R).fp w) w [q, 0] (rfMem R) := memRes_open hR fun x hx => hx
  have el : IntKind.i64.wrap (R.s.last + 1) = R.s.last + 1 := w64 (by omega) (by omega)
  obtain ⟨itt, hitt, hpt⟩ := Option.map_eq_some_iff.1 infoTm
  simp only [Prod.mk.injEq] at hpt
  refine calls_sm (cx 46 [(6, .of [(0, []), (1, []), (2, []), (3, []), (4, []), (5, []), (6, []), (7, []), (8, []), (9, []), (10, []), (11, []), (12, []), (13, []), (14, []), (15, []), (16, []), (17, []), (18, [4]), (19, []), (20, []), (21, []), (22, [])])] (rfRes q R).fp w) (vals := [.ptr 0 0, .int .i64 d, .int .i64 k, .int .i64 i]) mixed Try.func31 rfl rfl rfl hI rfl (st rfl ?_); conv => arg 3; whnf
  by_cases h1 : d < 1
  · (repeat ((first | refine n_must rfl ?_ | refine n_chk (drawF_ok (by decide +kernel)) ?_ | refine n_same rfl ?_ | ((first | refine n_must ?_ ?_ | refine n_brT ?_ ?_); (focus (first | (simp [h1]; done) | (simp [h1]; omega) | (simp only [h1]; simp; done)))) | (refine n_brF ?_ ?_; (focus (first | (simp [h1]; done) | (simp [h1]; omega) | (simp only [h1]; simp; done)))) | refine n_must (by (with_reducible refine and_shape ?_) <;> kernel_rfl) ?_); (refine gs ?_)))
    have e0 : (1 : Int) = delayF d := by unfold delayF; omega
    have ed : IntKind.i64.wrap (R.s.now + 1) = R.s.now + delayF d := by rw [w64 (by omega) (by omega)]; omega
    refine n_build1 rfl rfl elemTm rfl rfl rfl rfl rfl rfl rfl rfl rfl ?_
    (refine gs ?_)
    refine gw ?_
    refine n_append (nv := [.int .i64 (IntKind.i64.wrap (R.s.now + 1)), .int .i64 (IntKind.i64.wrap (R.s.last + 1)), .int .i64 k, .int .i64 i]) 1 rfl rfl elemTm hitt hpt.1 hpt.2.1 hpt.2.2 rfl (by omega) rfl rfl rfl rfl rfl rfl (by omega) (by simp [Value.oneCell']) (by omega) (by omega) (show tms R.s.A ++ _ = tms (R.s.A ++ [⟨R.s.now + delayF d, R.s.last + 1, k, i⟩]) by rw [ed, el]; exact tms_add _ ⟨R.s.now + delayF d, R.s.last + 1, k, i⟩) fun g c => ?_
    (refine gs ?_)
    refine gw ?_
    refine n_ret0 rfl rfl fun ids' w' hp hI' => ⟨⟨some ⟨g, 0, none⟩, c, R.s.arm d k i⟩, by rw [el], rfl, ?_⟩
    have eM : rfMem ⟨some ⟨g, 0, none⟩, c, R.s.arm d k i⟩ = [⟨66, [.int .i64 R.s.now, .int .i64 (IntKind.i64.wrap (R.s.last + 1)), .raw (.slice (some ⟨g, 0, none⟩) (R.s.A.length + 1) c)], true⟩, ⟨54, [.res (tRow (some ⟨g, 0, none⟩) (R.s.A.length + 1) c (tms (R.s.A ++ [⟨R.s.now + delayF d, R.s.last + 1, k, i⟩])))], true⟩] := by
      rw [el]
      simp [rfMem, Ws.arm]
    show Post _ (memRes _ _) _ _
    rw [eM]
    exact post_shut (ρ := rfRes q R) hI' rfl [0, 1] (.blk rfl (pre_at hp rfl) rfl rfl (.res rfl .nil)) (by decide)
  by_cases h2 : 1099511627776 < d
  · (repeat ((first | refine n_must rfl ?_ | refine n_chk (drawF_ok (by decide +kernel)) ?_ | refine n_same rfl ?_ | ((first | refine n_must ?_ ?_ | refine n_brT ?_ ?_); (focus (first | (simp [h1, h2]; done) | (simp [h1, h2]; omega) | (simp only [h1, h2]; simp; done)))) | (refine n_brF ?_ ?_; (focus (first | (simp [h1, h2]; done) | (simp [h1, h2]; omega) | (simp only [h1, h2]; simp; done)))) | refine n_must (by (with_reducible refine and_shape ?_) <;> kernel_rfl) ?_); (refine gs ?_)))
    have e0 : (1099511627776 : Int) = delayF d := by unfold delayF; omega
    have ed : IntKind.i64.wrap (R.s.now + 1099511627776) = R.s.now + delayF d := by rw [w64 (by omega) (by omega)]; omega
    refine n_build1 rfl rfl elemTm rfl rfl rfl rfl rfl rfl rfl rfl rfl ?_
    (refine gs ?_)
    refine gw ?_
    refine n_append (nv := [.int .i64 (IntKind.i64.wrap (R.s.now + 1099511627776)), .int .i64 (IntKind.i64.wrap (R.s.last + 1)), .int .i64 k, .int .i64 i]) 1 rfl rfl elemTm hitt hpt.1 hpt.2.1 hpt.2.2 rfl (by omega) rfl rfl rfl rfl rfl rfl (by omega) (by simp [Value.oneCell']) (by omega) (by omega) (show tms R.s.A ++ _ = tms (R.s.A ++ [⟨R.s.now + delayF d, R.s.last + 1, k, i⟩]) by rw [ed, el]; exact tms_add _ ⟨R.s.now + delayF d, R.s.last + 1, k, i⟩) fun g c => ?_
    (refine gs ?_)
    refine gw ?_
    refine n_ret0 rfl rfl fun ids' w' hp hI' => ⟨⟨some ⟨g, 0, none⟩, c, R.s.arm d k i⟩, by rw [el], rfl, ?_⟩
    have eM : rfMem ⟨some ⟨g, 0, none⟩, c, R.s.arm d k i⟩ = [⟨66, [.int .i64 R.s.now, .int .i64 (IntKind.i64.wrap (R.s.last + 1)), .raw (.slice (some ⟨g, 0, none⟩) (R.s.A.length + 1) c)], true⟩, ⟨54, [.res (tRow (some ⟨g, 0, none⟩) (R.s.A.length + 1) c (tms (R.s.A ++ [⟨R.s.now + delayF d, R.s.last + 1, k, i⟩])))], true⟩] := by
      rw [el]
      simp [rfMem, Ws.arm]
    show Post _ (memRes _ _) _ _
    rw [eM]
    exact post_shut (ρ := rfRes q R) hI' rfl [0, 1] (.blk rfl (pre_at hp rfl) rfl rfl (.res rfl .nil)) (by decide)
  (repeat ((first | refine n_must rfl ?_ | refine n_chk (drawF_ok (by decide +kernel)) ?_ | refine n_same rfl ?_ | ((first | refine n_must ?_ ?_ | refine n_brT ?_ ?_); (focus (first | (simp [h1, h2]; done) | (simp [h1, h2]; omega) | (simp only [h1, h2]; simp; done)))) | (refine n_brF ?_ ?_; (focus (first | (simp [h1, h2]; done) | (simp [h1, h2]; omega) | (simp only [h1, h2]; simp; done)))) | refine n_must (by (with_reducible refine and_shape ?_) <;> kernel_rfl) ?_); (refine gs ?_)))
  have e0 : (d : Int) = delayF d := by unfold delayF; omega
  have ed : IntKind.i64.wrap (R.s.now + d) = R.s.now + delayF d := by rw [w64 (by omega) (by omega)]; omega
  refine n_build1 rfl rfl elemTm rfl rfl rfl rfl rfl rfl rfl rfl rfl ?_
  (refine gs ?_)
  refine gw ?_
  refine n_append (nv := [.int .i64 (IntKind.i64.wrap (R.s.now + d)), .int .i64 (IntKind.i64.wrap (R.s.last + 1)), .int .i64 k, .int .i64 i]) 1 rfl rfl elemTm hitt hpt.1 hpt.2.1 hpt.2.2 rfl (by omega) rfl rfl rfl rfl rfl rfl (by omega) (by simp [Value.oneCell']) (by omega) (by omega) (show tms R.s.A ++ _ = tms (R.s.A ++ [⟨R.s.now + delayF d, R.s.last + 1, k, i⟩]) by rw [ed, el]; exact tms_add _ ⟨R.s.now + delayF d, R.s.last + 1, k, i⟩) fun g c => ?_
  (refine gs ?_)
  refine gw ?_
  refine n_ret0 rfl rfl fun ids' w' hp hI' => ⟨⟨some ⟨g, 0, none⟩, c, R.s.arm d k i⟩, by rw [el], rfl, ?_⟩
  have eM : rfMem ⟨some ⟨g, 0, none⟩, c, R.s.arm d k i⟩ = [⟨66, [.int .i64 R.s.now, .int .i64 (IntKind.i64.wrap (R.s.last + 1)), .raw (.slice (some ⟨g, 0, none⟩) (R.s.A.length + 1) c)], true⟩, ⟨54, [.res (tRow (some ⟨g, 0, none⟩) (R.s.A.length + 1) c (tms (R.s.A ++ [⟨R.s.now + delayF d, R.s.last + 1, k, i⟩])))], true⟩] := by
    rw [el]
    simp [rfMem, Ws.arm]
  show Post _ (memRes _ _) _ _
  rw [eM]
  exact post_shut (ρ := rfRes q R) hI' rfl [0, 1] (.blk rfl (pre_at hp rfl) rfl rfl (.res rfl .nil)) (by decide)
theorem rSplit_ok {q : Nat} {R : Rf} {N : Nat} {x : Int} {w : World} (hlen : R.s.A.length ≤ N) (hN : N ≤ 1000000) (hR : (rfRes q R).R w) :
    Calls Try.prog 40 #[pV q, .int .i64 x] w fun e w' => ∃ y : (Option Addr × Nat) × (Option Addr × Nat), e = .returned (.tuple #[.slice y.1.1 (tD R.s.A x R.s.A.length).length y.1.2, .slice y.2.1 (tE R.s.A x R.s.A.length).length y.2.2]) ∧ True ∧ FreshR w w' (memRes [0, 0] [⟨54, [.res (tRow y.1.1 (tD R.s.A x R.s.A.length).length y.1.2 (tms (tD R.s.A x R.s.A.length)))], true⟩, ⟨54, [.res (tRow y.2.1 (tE R.s.A x R.s.A.length).length y.2.2 (tms (tE R.s.A x R.s.A.length)))], true⟩]) := by
  have hI : Inv (cx 50 [] [] w) w [q, 0] (ro (rfMem R)) := memRes_read hR
  obtain ⟨itt, hitt, hpt⟩ := Option.map_eq_some_iff.1 infoTm
  simp only [Prod.mk.injEq] at hpt
  refine calls_sm (cx 50 [] [] w) (vals := [.ptr 0 0, .int .i64 x]) mixed Try.func40 rfl rfl rfl hI rfl (st rfl ?_); conv => arg 3; whnf
  refine gw ?_
  refine n_loopX [0, 0] (ro (rfMem R) ++ [⟨54, [.res (tRow (((0, (none, 0), (none, 0)) : Nat × (Option Addr × Nat) × (Option Addr × Nat))).2.1.1 (tD R.s.A x (((0, (none, 0), (none, 0)) : Nat × (Option Addr × Nat) × (Option Addr × Nat))).1).length (((0, (none, 0), (none, 0)) : Nat × (Option Addr × Nat) × (Option Addr × Nat))).2.1.2 (tms (tD R.s.A x (((0, (none, 0), (none, 0)) : Nat × (Option Addr × Nat) × (Option Addr × Nat))).1)))], true⟩, ⟨54, [.res (tRow (((0, (none, 0), (none, 0)) : Nat × (Option Addr × Nat) × (Option Addr × Nat))).2.2.1 (tE R.s.A x (((0, (none, 0), (none, 0)) : Nat × (Option Addr × Nat) × (Option Addr × Nat))).1).length (((0, (none, 0), (none, 0)) : Nat × (Option Addr × Nat) × (Option Addr × Nat))).2.2.2 (tms (tE R.s.A x (((0, (none, 0), (none, 0)) : Nat × (Option Addr × Nat) × (Option Addr × Nat))).1)))], true⟩]) rfl (fun w1 hI1 => ?_) ?_
  · have h1 := hI1.addR (Frm.refl [] w1) (tRow none 0 0 []) 54 true (rowRes_nil _ _ _) (by simp [rowRes]) (by simp [rowRes])
    exact h1.addR (Frm.refl [] w1) (tRow none 0 0 []) 54 true (rowRes_nil _ _ _) (by simp [rowRes]) (by simp [rowRes])
  refine n_loop (σ := Nat × (Option Addr × Nat) × (Option Addr × Nat)) (fun t => [(0, .ptr 0 0), (1, .int .i64 x), (6, .raw (.slice t.2.1.1 (tD R.s.A x t.1).length t.2.1.2)), (7, .raw (.slice t.2.2.1 (tE R.s.A x t.1).length t.2.2.2)), (8, .int .i64 (t.1 : Nat))]) (fun t => (ro (rfMem R) ++ [⟨54, [.res (tRow (t).2.1.1 (tD R.s.A x (t).1).length (t).2.1.2 (tms (tD R.s.A x (t).1)))], true⟩, ⟨54, [.res (tRow (t).2.2.1 (tE R.s.A x (t).1).length (t).2.2.2 (tms (tE R.s.A x (t).1)))], true⟩])) (fun t => t.1 ≤ R.s.A.length) (fun t => R.s.A.length - t.1) (0, (none, 0), (none, 0)) mixed (by dsimp only; omega) (fun _ _ => rfl) rfl (by (repeat (first | exact trivial | refine ⟨⟨rfl, rfl⟩, ?_⟩))) (fun s _ => ⟨by (repeat (first | exact trivial | refine ⟨⟨_, rfl⟩, ?_⟩)), by (repeat (first | exact trivial | refine ⟨⟨_, rfl⟩, ?_⟩))⟩) fun t ht => ?_
  obtain ⟨i, ⟨do_, dc⟩, ⟨lo, lc⟩⟩ := t
  obtain ⟨o, cap, s⟩ := R
  dsimp only at ht hlen hR ⊢
  (refine gs ?_)
  by_cases hil : i < s.A.length
  · have ei : IntKind.i64.wrap ((i : Int) + 1) = ((i + 1 : Nat) : Int) := by rw [w64 (by omega) (by omega)]; simp
    have hx : s.A[i]? = some s.A[i] := List.getElem?_eq_getElem _
    obtain ⟨g, rfl⟩ := rowRes_some' (memRes_res hR 1 rfl rfl) (by dsimp only; omega)
    generalize s.A[i] = t at hx
    have hdl : (tD s.A x i).length ≤ s.A.length := tD_le
    have hel : (tE s.A x i).length ≤ s.A.length := tE_le
    (repeat ((first | refine n_must rfl ?_ | refine n_chk (drawF_ok (by decide +kernel)) ?_ | refine n_same rfl ?_ | ((first | refine n_must ?_ ?_ | refine n_brT ?_ ?_); (focus (first | (simp [hil]; done) | (simp [hil]; omega) | (simp only [hil]; simp; done)))) | (refine n_brF ?_ ?_; (focus (first | (simp [hil]; done) | (simp [hil]; omega) | (simp only [hil]; simp; done)))) | refine n_must (by (with_reducible refine and_shape ?_) <;> kernel_rfl) ?_); (refine gs ?_)))
    (refine n_ldA (.int .i64 t.due) rfl (by first | exact trivial | rfl) rfl (fun _ w1 _ hI1 => load_cell aggInt (tm_cell (a := ⟨g, 0, none⟩) (rd_of_row (hI1.res 1 rfl rfl)) hx 0 rfl (add_add _ _ _))) ?_; (refine gs ?_))
    by_cases hxd : t.due = x
    · have hD := tD_in hx hxd
      have hE := tE_in hx hxd
      have hDl : (tD s.A x (i + 1)).length = (tD s.A x i).length + 1 := by rw [hD]; simp
      (repeat ((first | refine n_must rfl ?_ | refine n_chk (drawF_ok (by decide +kernel)) ?_ | refine n_same rfl ?_ | ((first | refine n_must ?_ ?_ | refine n_brT ?_ ?_); (focus (first | (simp [hxd, hil]; done) | (simp [hxd, hil]; omega) | (simp only [hxd, hil]; simp; done)))) | (refine n_brF ?_ ?_; (focus (first | (simp [hxd, hil]; done) | (simp [hxd, hil]; omega) | (simp only [hxd, hil]; simp; done)))) | refine n_must (by (with_reducible refine and_shape ?_) <;> kernel_rfl) ?_); (refine gs ?_)))
      (refine n_ldA (.agg t.sv) rfl (by first | exact trivial | rfl) rfl (fun _ w1 _ hI1 => tm_load (a := ⟨g, 0, none⟩) (rd_of_row (hI1.res 1 rfl rfl)) hx rfl) ?_; (refine gs ?_))
      refine gw ?_
      refine n_build1 rfl rfl elemTm rfl rfl rfl rfl rfl rfl rfl rfl rfl ?_
      (refine gs ?_)
      refine gw ?_
      refine n_append (nv := t.l) 2 rfl rfl elemTm hitt hpt.1 hpt.2.1 hpt.2.2 rfl (by omega) rfl rfl rfl rfl rfl rfl (by omega) (by simp [Value.oneCell']) (by omega) (by omega) (show tms _ ++ t.l = tms (tD s.A x (i + 1)) by rw [hD]; exact tms_add _ _) fun g2 c2 => ?_
      (refine gs ?_)
      refine gw ?_
      refine n_again ⟨(i + 1, (some ⟨g2, 0, none⟩, c2), (lo, lc)), by dsimp only; omega, by dsimp only; omega, ?_, ?_⟩
      · dsimp only
        rw [hDl, hE]
        exact (by (repeat (first | exact trivial | refine ⟨⟨rfl, rfl⟩, ?_⟩ | refine ⟨⟨rfl, congrArg (SV.int .i64) ei⟩, ?_⟩)))
      · dsimp only
        rw [hDl, hE]
        exact ⟨_, rfl⟩
    · have hD := tD_out hx hxd
      have hE := tE_out hx hxd
      have hEl : (tE s.A x (i + 1)).length = (tE s.A x i).length + 1 := by rw [hE]; simp
      (repeat ((first | refine n_must rfl ?_ | refine n_chk (drawF_ok (by decide +kernel)) ?_ | refine n_same rfl ?_ | ((first | refine n_must ?_ ?_ | refine n_brT ?_ ?_); (focus (first | (simp [hxd, hil]; done) | (simp [hxd, hil]; omega) | (simp only [hxd, hil]; simp; done)))) | (refine n_brF ?_ ?_; (focus (first | (simp [hxd, hil]; done) | (simp [hxd, hil]; omega) | (simp only [hxd, hil]; simp; done)))) | refine n_must (by (with_reducible refine and_shape ?_) <;> kernel_rfl) ?_); (refine gs ?_)))
      (refine n_ldA (.agg t.sv) rfl (by first | exact trivial | rfl) rfl (fun _ w1 _ hI1 => tm_load (a := ⟨g, 0, none⟩) (rd_of_row (hI1.res 1 rfl rfl)) hx rfl) ?_; (refine gs ?_))
      refine gw ?_
      refine n_build1 rfl rfl elemTm rfl rfl rfl rfl rfl rfl rfl rfl rfl ?_
      (refine gs ?_)
      refine gw ?_
      refine n_append (nv := t.l) 3 rfl rfl elemTm hitt hpt.1 hpt.2.1 hpt.2.2 rfl (by omega) rfl rfl rfl rfl rfl rfl (by omega) (by simp [Value.oneCell']) (by omega) (by omega) (show tms _ ++ t.l = tms (tE s.A x (i + 1)) by rw [hE]; exact tms_add _ _) fun g2 c2 => ?_
      (refine gs ?_)
      refine gw ?_
      refine n_again ⟨(i + 1, (do_, dc), (some ⟨g2, 0, none⟩, c2)), by dsimp only; omega, by dsimp only; omega, ?_, ?_⟩
      · dsimp only
        rw [hEl, hD]
        exact (by (repeat (first | exact trivial | refine ⟨⟨rfl, rfl⟩, ?_⟩ | refine ⟨⟨rfl, congrArg (SV.int .i64) ei⟩, ?_⟩)))
      · dsimp only
        rw [hEl, hD]
        exact ⟨_, rfl⟩
  · obtain rfl : i = s.A.length := by omega
    (repeat ((first | refine n_must rfl ?_ | refine n_chk (drawF_ok (by decide +kernel)) ?_ | refine n_same rfl ?_ | ((first | refine n_must ?_ ?_ | refine n_brT ?_ ?_); (focus (first | (simp [hil]; done) | (simp [hil]; omega) | (simp only [hil]; simp; done)))) | (refine n_brF ?_ ?_; (focus (first | (simp [hil]; done) | (simp [hil]; omega) | (simp only [hil]; simp; done)))) | refine n_must (by (with_reducible refine and_shape ?_) <;> kernel_rfl) ?_); (refine gs ?_)))
    refine n_exit rfl ?_
    (refine gs ?_)
    refine gw ?_
    refine n_ret0 rfl rfl fun ids' w' hp hI' => ⟨((do_, dc), (lo, lc)), rfl, trivial, ?_⟩
    exact fresh_shut hI' rfl [2, 3] (.res rfl (.res rfl .nil)) (by decide)
theorem rTick_ok {q : Nat} {R : Rf} {N : Nat} {w : World} (hW : R.s.ok N) (hN : N ≤ 1000000) (hR : (rfRes q R).R w) :
    Calls Try.prog 33 #[pV q] w fun e w' => ∃ y : Rf × Option Addr × Nat, e = .returned (.slice y.2.1 R.s.due.length y.2.2) ∧ y.1.s = R.s.tick ∧ Post (rfRes q R) ((rfRes q y.1).both (tRow y.2.1 R.s.due.length y.2.2 (tms R.s.due))) w w' := by
  have hnow := hW.now
  have hI : Inv (cx 26 [] (rfRes q R).fp w) w [q, 0] (rfMem R) := memRes_open hR fun x hx => hx
  have en : IntKind.i64.wrap (R.s.now + 1) = R.s.now + 1 := w64 (by omega) (by omega)
  refine calls_sm (cx 26 [] (rfRes q R).fp w) (vals := [.ptr 0 0]) mixed Try.func33 rfl rfl rfl hI rfl (st rfl ?_); conv => arg 3; whnf
  (repeat ((first | refine n_must rfl ?_ | refine n_chk (drawF_ok (by decide +kernel)) ?_ | refine n_same rfl ?_ | ((first | refine n_must ?_ ?_ | refine n_brT ?_ ?_); (focus (first | (simp [en]; done) | (simp [en]; omega) | (simp only [en]; simp; done)))) | (refine n_brF ?_ ?_; (focus (first | (simp [en]; done) | (simp [en]; omega) | (simp only [en]; simp; done)))) | refine n_must (by (with_reducible refine and_shape ?_) <;> kernel_rfl) ?_); (refine gs ?_)))
  rw [en]
  refine n_callNM (Y := (Option Addr × Nat) × (Option Addr × Nat)) (fun _ => [0, 0]) (fun y => [⟨54, [.res (tRow y.1.1 (tD R.s.A (R.s.now + 1) R.s.A.length).length y.1.2 (tms (tD R.s.A (R.s.now + 1) R.s.A.length)))], true⟩, ⟨54, [.res (tRow y.2.1 (tE R.s.A (R.s.now + 1) R.s.A.length).length y.2.2 (tms (tE R.s.A (R.s.now + 1) R.s.A.length)))], true⟩]) (fun y => .tup [.raw (.slice y.1.1 (tD R.s.A (R.s.now + 1) R.s.A.length).length y.1.2), .raw (.slice y.2.1 (tE R.s.A (R.s.now + 1) R.s.A.length).length y.2.2)]) (fun y => .tuple #[.slice y.1.1 (tD R.s.A (R.s.now + 1) R.s.A.length).length y.1.2, .slice y.2.1 (tE R.s.A (R.s.now + 1) R.s.A.length).length y.2.2]) (fun _ => True) rfl rfl rfl (fun _ => rfl) (fun y i b h hr => ?_) (fun w1 hI1 => rSplit_ok (R := ⟨R.o, R.cap, { R.s with now := R.s.now + 1 }⟩) hW.len hN (memRes_here hI1 [0, 1] (.blk rfl rfl rfl rfl (.res rfl .nil)) (by decide))) ?_
  · match i, h with
    | 0, h => cases h; cases hr
    | 1, h => cases h; cases hr
  rintro ⟨⟨do_, dc⟩, ⟨lo, lc⟩⟩ _ _
  dsimp only
  (refine gs ?_)
  refine gw ?_
  have eD : tD R.s.A (R.s.now + 1) R.s.A.length = R.s.due := by unfold tD Ws.due; rw [List.take_length]
  have eE : tE R.s.A (R.s.now + 1) R.s.A.length = R.s.tick.A := by unfold tE Ws.tick; rw [List.take_length]
  refine n_ret0 rfl rfl fun ids' w' hp hI' => ⟨(⟨lo, lc, R.s.tick⟩, do_, dc), by rw [eD], rfl, ?_⟩
  have hq : ids'[0]? = some q := pre_at hp rfl
  rw [eD, eE] at hI'
  have hI3 := (hI'.gather (ids0 := [q, 0]) (mem0 := rfMem ⟨lo, lc, R.s.tick⟩) [0, 3] (.blk rfl hq rfl rfl (.res rfl .nil)) (by decide) 66).absorb 4 2 (by decide) rfl rfl rfl rfl rfl rfl
  exact post_res (ρ := rfRes q R) (ρ' := (rfRes q ⟨lo, lc, R.s.tick⟩).both (tRow do_ R.s.due.length dc (tms R.s.due))) hI3 rfl 4 rfl rfl rfl
end Go.Proofs.Ytjmaddmklogchaa
