/- Package gossip: Give; the document's New, Need, Lacks, clear. -/
import Derived.Test.YtapiakcfjhedpaaDoorGoC
set_option maxRecDepth 100000
set_option linter.unusedSimpArgs false
set_option linter.unusedVariables false
set_option maxHeartbeats 8000000
namespace Go.Proofs.YtapiakcfjhedpaaDoor
open Go.RowKit

/-! ### Give -/
theorem give_le {x : Int} (hx : 0 ≤ x) (y : Int) : 0 ≤ giveF x y ∧ giveF x y ≤ x := by
  have hq : x.tdiv 2 = x / 2 := Int.tdiv_eq_ediv_of_nonneg hx
  unfold giveF
  rw [hq]; omega
theorem out_give {s : Led} (ok : s.ok) (x y : Int) : s.out (giveF s.d x) (giveF s.u y) = ({ s with d := s.d - giveF s.d x, u := s.u - giveF s.u y }, .ok) := by
  have h1 := give_le ok.d0 x
  have h2 := give_le ok.u0 y
  unfold Led.out
  rw [if_neg (by omega), if_neg (by omega), if_neg (by omega)]
def Led.give (s : Led) (x y : Int) : Led := { s with d := s.d - giveF s.d x, u := s.u - giveF s.u y }
theorem Led.ok.give {s : Led} (ok : s.ok) (x y : Int) : (s.give x y).ok := by
  have := Led.out_ok ok (giveF s.d x) (giveF s.u y)
  rw [out_give ok] at this
  exact this
theorem Give2_ok {b0 b : Nat} {w : World} {a0 a1 a2 : Addr} (hs : Sents b0 w a0 a1 a2) (hb0 : b0 ≤ b) (hB : b0 ≤ w.heap.size) (pg : Value) (s : Led) (ok : s.ok) (hb : Blk w b s.cells 63) (x y : Int) :
    Calls Tryd.prog 30 #[pg, pV b, rtV (x, y)] w fun e w' => e = .returned (rtV (giveF s.d x, giveF s.u y)) ∧ Frm [b] w w' ∧ Blk w' b (s.give x y).cells 63 := by
  have hI : Inv (cx 28 [(2, .then [(0, []), (1, []), (2, []), (3, []), (5, []), (6, []), (7, []), (8, [])] (.fork 4 [8, 6] (.then [] (.fork 9 [] (.of [(10, []), (11, []), (12, [])]) (.cons 11 [8, 6] (.of [(9, []), (10, []), (12, [])])))) (.cons 11 [8, 6, 3, 1] (.of [(4, [8, 6]), (9, []), (10, []), (12, [])]))))] [b] w) w [b] [⟨63, s.sv, true⟩] := (Inv.nil w).cons (by simp) rfl hb (by simp)
  have hd : 0 ≤ s.d ∧ s.d ≤ 1099511627776 := by have := ok.d0; have := ok.u0; have := ok.h0; have := ok.sum; have := ok.cap; omega
  have hu : 0 ≤ s.u ∧ s.u ≤ 1099511627776 := by have := ok.d0; have := ok.u0; have := ok.h0; have := ok.sum; have := ok.cap; omega
  have hout := out_give ok x y
  refine calls_sm (cx 28 [(2, .then [(0, []), (1, []), (2, []), (3, []), (5, []), (6, []), (7, []), (8, [])] (.fork 4 [8, 6] (.then [] (.fork 9 [] (.of [(10, []), (11, []), (12, [])]) (.cons 11 [8, 6] (.of [(9, []), (10, []), (12, [])])))) (.cons 11 [8, 6, 3, 1] (.of [(4, [8, 6]), (9, []), (10, []), (12, [])]))))] [b] w) (vals := [.raw pg, .ptr 0 0, .agg [.int .i64 x, .int .i64 y]]) mixed Tryd.func30 rfl rfl rfl hI rfl (st rfl ?_); conv => arg 3; whnf
  (repeat (first | (refine n_must rfl ?_; (refine st rfl ?_; conv => arg 3; whnf)) | (refine n_chk (drawF_ok (by decide +kernel)) ?_; (refine st rfl ?_; conv => arg 3; whnf)) | (refine n_same rfl ?_; (refine st rfl ?_; conv => arg 3; whnf)) | (refine n_brT ?_ ?_; (focus (simp <;> fail)); (refine st rfl ?_; conv => arg 3; whnf)) | (refine n_brF ?_ ?_; (focus (simp <;> fail)); (refine st rfl ?_; conv => arg 3; whnf))))
  refine n_sameP ((.agg [.int .i64 s.d, .int .i64 s.u])) rfl rfl rfl (fun _ w1 hp1 hI1 => Rights_ok s (hI1.blk_at hp1 0 rfl rfl rfl)) ?_; (refine st rfl ?_; conv => arg 3; whnf)
  (repeat (first | (refine n_must rfl ?_; (refine st rfl ?_; conv => arg 3; whnf)) | (refine n_chk (drawF_ok (by decide +kernel)) ?_; (refine st rfl ?_; conv => arg 3; whnf)) | (refine n_same rfl ?_; (refine st rfl ?_; conv => arg 3; whnf)) | (refine n_brT ?_ ?_; (focus (simp <;> fail)); (refine st rfl ?_; conv => arg 3; whnf)) | (refine n_brF ?_ ?_; (focus (simp <;> fail)); (refine st rfl ?_; conv => arg 3; whnf))))
  refine n_both ?_ ?_
  · (refine st rfl ?_; conv => arg 3; whnf)
    refine n_sameP (.int .i64 (giveF s.d x)) rfl rfl rfl (fun _ w1 hp1 hI1 => Give_ok s.d x hd w1) ?_; (refine st rfl ?_; conv => arg 3; whnf)
    (repeat (first | (refine n_must rfl ?_; (refine st rfl ?_; conv => arg 3; whnf)) | (refine n_chk (drawF_ok (by decide +kernel)) ?_; (refine st rfl ?_; conv => arg 3; whnf)) | (refine n_same rfl ?_; (refine st rfl ?_; conv => arg 3; whnf)) | (refine n_brT ?_ ?_; (focus (simp <;> fail)); (refine st rfl ?_; conv => arg 3; whnf)) | (refine n_brF ?_ ?_; (focus (simp <;> fail)); (refine st rfl ?_; conv => arg 3; whnf))))
    refine n_both ?_ ?_
    · (refine st rfl ?_; conv => arg 3; whnf)
      refine n_sameP (.int .i64 (giveF s.u y)) rfl rfl rfl (fun _ w1 hp1 hI1 => Give_ok s.u y hu w1) ?_; (refine st rfl ?_; conv => arg 3; whnf)
      (repeat (first | (refine n_must rfl ?_; (refine st rfl ?_; conv => arg 3; whnf)) | (refine n_chk (drawF_ok (by decide +kernel)) ?_; (refine st rfl ?_; conv => arg 3; whnf)) | (refine n_same rfl ?_; (refine st rfl ?_; conv => arg 3; whnf)) | (refine n_brT ?_ ?_; (focus (simp <;> fail)); (refine st rfl ?_; conv => arg 3; whnf)) | (refine n_brF ?_ ?_; (focus (simp <;> fail)); (refine st rfl ?_; conv => arg 3; whnf))))
      refine n_updP 0 (.int .i64 (s.out (giveF s.d x) (giveF s.u y)).2.num) (s.out (giveF s.d x) (giveF s.u y)).1.sv rfl rfl rfl rfl rfl rfl rfl (fun _ w1 hp1 hI1 => Out_ok (hs.frm hI1.frm (by simpa using hb0) hB) hb0 (Nat.le_trans hB hI1.frm.size) s ok (hI1.blk_at hp1 0 rfl rfl rfl) (giveF s.d x) (giveF s.u y)) ?_
      rw [hout]
      (refine st rfl ?_; conv => arg 3; whnf)
      (repeat (first | (refine n_must rfl ?_; (refine st rfl ?_; conv => arg 3; whnf)) | (refine n_chk (drawF_ok (by decide +kernel)) ?_; (refine st rfl ?_; conv => arg 3; whnf)) | (refine n_same rfl ?_; (refine st rfl ?_; conv => arg 3; whnf)) | (refine n_must ?_ ?_; (focus (first | (simp [LErr.num]; done) | (simp [LErr.num]; omega) | (simp only [LErr.num]; simp; done))); (refine st rfl ?_; conv => arg 3; whnf)) | (refine n_brT ?_ ?_; (focus (first | (simp [LErr.num]; done) | (simp [LErr.num]; omega) | (simp only [LErr.num]; simp; done))); (refine st rfl ?_; conv => arg 3; whnf)) | (refine n_brF ?_ ?_; (focus (first | (simp [LErr.num]; done) | (simp [LErr.num]; omega) | (simp only [LErr.num]; simp; done))); (refine st rfl ?_; conv => arg 3; whnf)) | (refine n_must (by (with_reducible refine and_shape ?_) <;> kernel_rfl) ?_; (refine st rfl ?_; conv => arg 3; whnf))))
      exact n_ret0 rfl rfl fun ids' w' hp hI' => ⟨rfl, hI'.frm, hI'.blk_at hp 0 rfl rfl rfl⟩
    · (refine st rfl ?_; conv => arg 3; whnf)
      (repeat (first | (refine n_must rfl ?_; (refine st rfl ?_; conv => arg 3; whnf)) | (refine n_chk (drawF_ok (by decide +kernel)) ?_; (refine st rfl ?_; conv => arg 3; whnf)) | (refine n_same rfl ?_; (refine st rfl ?_; conv => arg 3; whnf)) | (refine n_brT ?_ ?_; (focus (simp <;> fail)); (refine st rfl ?_; conv => arg 3; whnf)) | (refine n_brF ?_ ?_; (focus (simp <;> fail)); (refine st rfl ?_; conv => arg 3; whnf))))
      refine n_sameP (.int .i64 (giveF s.u y)) rfl rfl rfl (fun _ w1 hp1 hI1 => Give_ok s.u y hu w1) ?_; (refine st rfl ?_; conv => arg 3; whnf)
      (repeat (first | (refine n_must rfl ?_; (refine st rfl ?_; conv => arg 3; whnf)) | (refine n_chk (drawF_ok (by decide +kernel)) ?_; (refine st rfl ?_; conv => arg 3; whnf)) | (refine n_same rfl ?_; (refine st rfl ?_; conv => arg 3; whnf)) | (refine n_brT ?_ ?_; (focus (simp <;> fail)); (refine st rfl ?_; conv => arg 3; whnf)) | (refine n_brF ?_ ?_; (focus (simp <;> fail)); (refine st rfl ?_; conv => arg 3; whnf))))
      refine n_updP 0 (.int .i64 (s.out (giveF s.d x) (giveF s.u y)).2.num) (s.out (giveF s.d x) (giveF s.u y)).1.sv rfl rfl rfl rfl rfl rfl rfl (fun _ w1 hp1 hI1 => Out_ok (hs.frm hI1.frm (by simpa using hb0) hB) hb0 (Nat.le_trans hB hI1.frm.size) s ok (hI1.blk_at hp1 0 rfl rfl rfl) (giveF s.d x) (giveF s.u y)) ?_
      rw [hout]
      (refine st rfl ?_; conv => arg 3; whnf)
      (repeat (first | (refine n_must rfl ?_; (refine st rfl ?_; conv => arg 3; whnf)) | (refine n_chk (drawF_ok (by decide +kernel)) ?_; (refine st rfl ?_; conv => arg 3; whnf)) | (refine n_same rfl ?_; (refine st rfl ?_; conv => arg 3; whnf)) | (refine n_must ?_ ?_; (focus (first | (simp [LErr.num]; done) | (simp [LErr.num]; omega) | (simp only [LErr.num]; simp; done))); (refine st rfl ?_; conv => arg 3; whnf)) | (refine n_brT ?_ ?_; (focus (first | (simp [LErr.num]; done) | (simp [LErr.num]; omega) | (simp only [LErr.num]; simp; done))); (refine st rfl ?_; conv => arg 3; whnf)) | (refine n_brF ?_ ?_; (focus (first | (simp [LErr.num]; done) | (simp [LErr.num]; omega) | (simp only [LErr.num]; simp; done))); (refine st rfl ?_; conv => arg 3; whnf)) | (refine n_must (by (with_reducible refine and_shape ?_) <;> kernel_rfl) ?_; (refine st rfl ?_; conv => arg 3; whnf))))
      exact n_ret0 rfl rfl fun ids' w' hp hI' => ⟨rfl, hI'.frm, hI'.blk_at hp 0 rfl rfl rfl⟩
  · (refine st rfl ?_; conv => arg 3; whnf)
    (repeat (first | (refine n_must rfl ?_; (refine st rfl ?_; conv => arg 3; whnf)) | (refine n_chk (drawF_ok (by decide +kernel)) ?_; (refine st rfl ?_; conv => arg 3; whnf)) | (refine n_same rfl ?_; (refine st rfl ?_; conv => arg 3; whnf)) | (refine n_brT ?_ ?_; (focus (simp <;> fail)); (refine st rfl ?_; conv => arg 3; whnf)) | (refine n_brF ?_ ?_; (focus (simp <;> fail)); (refine st rfl ?_; conv => arg 3; whnf))))
    refine n_sameP (.int .i64 (giveF s.d x)) rfl rfl rfl (fun _ w1 hp1 hI1 => Give_ok s.d x hd w1) ?_; (refine st rfl ?_; conv => arg 3; whnf)
    (repeat (first | (refine n_must rfl ?_; (refine st rfl ?_; conv => arg 3; whnf)) | (refine n_chk (drawF_ok (by decide +kernel)) ?_; (refine st rfl ?_; conv => arg 3; whnf)) | (refine n_same rfl ?_; (refine st rfl ?_; conv => arg 3; whnf)) | (refine n_brT ?_ ?_; (focus (simp <;> fail)); (refine st rfl ?_; conv => arg 3; whnf)) | (refine n_brF ?_ ?_; (focus (simp <;> fail)); (refine st rfl ?_; conv => arg 3; whnf))))
    refine n_sameP (.int .i64 (giveF s.u y)) rfl rfl rfl (fun _ w1 hp1 hI1 => Give_ok s.u y hu w1) ?_; (refine st rfl ?_; conv => arg 3; whnf)
    (repeat (first | (refine n_must rfl ?_; (refine st rfl ?_; conv => arg 3; whnf)) | (refine n_chk (drawF_ok (by decide +kernel)) ?_; (refine st rfl ?_; conv => arg 3; whnf)) | (refine n_same rfl ?_; (refine st rfl ?_; conv => arg 3; whnf)) | (refine n_brT ?_ ?_; (focus (simp <;> fail)); (refine st rfl ?_; conv => arg 3; whnf)) | (refine n_brF ?_ ?_; (focus (simp <;> fail)); (refine st rfl ?_; conv => arg 3; whnf))))
    refine n_updP 0 (.int .i64 (s.out (giveF s.d x) (giveF s.u y)).2.num) (s.out (giveF s.d x) (giveF s.u y)).1.sv rfl rfl rfl rfl rfl rfl rfl (fun _ w1 hp1 hI1 => Out_ok (hs.frm hI1.frm (by simpa using hb0) hB) hb0 (Nat.le_trans hB hI1.frm.size) s ok (hI1.blk_at hp1 0 rfl rfl rfl) (giveF s.d x) (giveF s.u y)) ?_
    rw [hout]
    (refine st rfl ?_; conv => arg 3; whnf)
    (repeat (first | (refine n_must rfl ?_; (refine st rfl ?_; conv => arg 3; whnf)) | (refine n_chk (drawF_ok (by decide +kernel)) ?_; (refine st rfl ?_; conv => arg 3; whnf)) | (refine n_same rfl ?_; (refine st rfl ?_; conv => arg 3; whnf)) | (refine n_must ?_ ?_; (focus (first | (simp [LErr.num]; done) | (simp [LErr.num]; omega) | (simp only [LErr.num]; simp; done))); (refine st rfl ?_; conv => arg 3; whnf)) | (refine n_brT ?_ ?_; (focus (first | (simp [LErr.num]; done) | (simp [LErr.num]; omega) | (simp only [LErr.num]; simp; done))); (refine st rfl ?_; conv => arg 3; whnf)) | (refine n_brF ?_ ?_; (focus (first | (simp [LErr.num]; done) | (simp [LErr.num]; omega) | (simp only [LErr.num]; simp; done))); (refine st rfl ?_; conv => arg 3; whnf)) | (refine n_must (by (with_reducible refine and_shape ?_) <;> kernel_rfl) ?_; (refine st rfl ?_; conv => arg 3; whnf))))
    exact n_ret0 rfl rfl fun ids' w' hp hI' => ⟨rfl, hI'.frm, hI'.blk_at hp 0 rfl rfl rfl⟩
theorem rGive2_ok {b : Nat} {w : World} (pg : Value) (s : Led) (ok : s.ok) (hb : Blk w b s.cells 93) (x y : Int) :
    Calls Tryd.prog 31 #[pg, pV b, rtV (x, y)] w fun e w' => e = .returned (rtV (giveF s.d x, giveF s.u y)) ∧ Frm [b] w w' ∧ Blk w' b (s.give x y).cells 93 := by
  have hI : Inv (cx 26 [(2, .then [(0, []), (1, []), (2, []), (3, []), (5, []), (6, []), (7, []), (8, [])] (.fork 4 [8, 6] (.then [] (.fork 9 [] (.of [(10, []), (11, []), (12, [])]) (.cons 11 [8, 6] (.of [(9, []), (10, []), (12, [])])))) (.cons 11 [8, 6, 3, 1] (.of [(4, [8, 6]), (9, []), (10, []), (12, [])]))))] [b] w) w [b] [⟨93, s.sv, true⟩] := (Inv.nil w).cons (by simp) rfl hb (by simp)
  have hd : 0 ≤ s.d ∧ s.d ≤ 1099511627776 := by have := ok.d0; have := ok.u0; have := ok.h0; have := ok.sum; have := ok.cap; omega
  have hu : 0 ≤ s.u ∧ s.u ≤ 1099511627776 := by have := ok.d0; have := ok.u0; have := ok.h0; have := ok.sum; have := ok.cap; omega
  have hout := out_give ok x y
  refine calls_sm (cx 26 [(2, .then [(0, []), (1, []), (2, []), (3, []), (5, []), (6, []), (7, []), (8, [])] (.fork 4 [8, 6] (.then [] (.fork 9 [] (.of [(10, []), (11, []), (12, [])]) (.cons 11 [8, 6] (.of [(9, []), (10, []), (12, [])])))) (.cons 11 [8, 6, 3, 1] (.of [(4, [8, 6]), (9, []), (10, []), (12, [])]))))] [b] w) (vals := [.raw pg, .ptr 0 0, .agg [.int .i64 x, .int .i64 y]]) mixed Tryd.func31 rfl rfl rfl hI rfl (st rfl ?_); conv => arg 3; whnf
  (repeat (first | (refine n_must rfl ?_; (refine st rfl ?_; conv => arg 3; whnf)) | (refine n_chk (drawF_ok (by decide +kernel)) ?_; (refine st rfl ?_; conv => arg 3; whnf)) | (refine n_same rfl ?_; (refine st rfl ?_; conv => arg 3; whnf)) | (refine n_brT ?_ ?_; (focus (simp <;> fail)); (refine st rfl ?_; conv => arg 3; whnf)) | (refine n_brF ?_ ?_; (focus (simp <;> fail)); (refine st rfl ?_; conv => arg 3; whnf))))
  refine n_sameP ((.agg [.int .i64 s.d, .int .i64 s.u])) rfl rfl rfl (fun _ w1 hp1 hI1 => rRights_ok s (hI1.blk_at hp1 0 rfl rfl rfl)) ?_; (refine st rfl ?_; conv => arg 3; whnf)
  (repeat (first | (refine n_must rfl ?_; (refine st rfl ?_; conv => arg 3; whnf)) | (refine n_chk (drawF_ok (by decide +kernel)) ?_; (refine st rfl ?_; conv => arg 3; whnf)) | (refine n_same rfl ?_; (refine st rfl ?_; conv => arg 3; whnf)) | (refine n_brT ?_ ?_; (focus (simp <;> fail)); (refine st rfl ?_; conv => arg 3; whnf)) | (refine n_brF ?_ ?_; (focus (simp <;> fail)); (refine st rfl ?_; conv => arg 3; whnf))))
  refine n_both ?_ ?_
  · (refine st rfl ?_; conv => arg 3; whnf)
    refine n_sameP (.int .i64 (giveF s.d x)) rfl rfl rfl (fun _ w1 hp1 hI1 => rGive_ok s.d x hd w1) ?_; (refine st rfl ?_; conv => arg 3; whnf)
    (repeat (first | (refine n_must rfl ?_; (refine st rfl ?_; conv => arg 3; whnf)) | (refine n_chk (drawF_ok (by decide +kernel)) ?_; (refine st rfl ?_; conv => arg 3; whnf)) | (refine n_same rfl ?_; (refine st rfl ?_; conv => arg 3; whnf)) | (refine n_brT ?_ ?_; (focus (simp <;> fail)); (refine st rfl ?_; conv => arg 3; whnf)) | (refine n_brF ?_ ?_; (focus (simp <;> fail)); (refine st rfl ?_; conv => arg 3; whnf))))
    refine n_both ?_ ?_
    · (refine st rfl ?_; conv => arg 3; whnf)
      refine n_sameP (.int .i64 (giveF s.u y)) rfl rfl rfl (fun _ w1 hp1 hI1 => rGive_ok s.u y hu w1) ?_; (refine st rfl ?_; conv => arg 3; whnf)
      (repeat (first | (refine n_must rfl ?_; (refine st rfl ?_; conv => arg 3; whnf)) | (refine n_chk (drawF_ok (by decide +kernel)) ?_; (refine st rfl ?_; conv => arg 3; whnf)) | (refine n_same rfl ?_; (refine st rfl ?_; conv => arg 3; whnf)) | (refine n_brT ?_ ?_; (focus (simp <;> fail)); (refine st rfl ?_; conv => arg 3; whnf)) | (refine n_brF ?_ ?_; (focus (simp <;> fail)); (refine st rfl ?_; conv => arg 3; whnf))))
      refine n_updP 0 (.int .i64 (s.out (giveF s.d x) (giveF s.u y)).2.num) (s.out (giveF s.d x) (giveF s.u y)).1.sv rfl rfl rfl rfl rfl rfl rfl (fun _ w1 hp1 hI1 => rOut_ok s ok (hI1.blk_at hp1 0 rfl rfl rfl) (giveF s.d x) (giveF s.u y)) ?_
      rw [hout]
      (refine st rfl ?_; conv => arg 3; whnf)
      (repeat (first | (refine n_must rfl ?_; (refine st rfl ?_; conv => arg 3; whnf)) | (refine n_chk (drawF_ok (by decide +kernel)) ?_; (refine st rfl ?_; conv => arg 3; whnf)) | (refine n_same rfl ?_; (refine st rfl ?_; conv => arg 3; whnf)) | (refine n_must ?_ ?_; (focus (first | (simp [LErr.num]; done) | (simp [LErr.num]; omega) | (simp only [LErr.num]; simp; done))); (refine st rfl ?_; conv => arg 3; whnf)) | (refine n_brT ?_ ?_; (focus (first | (simp [LErr.num]; done) | (simp [LErr.num]; omega) | (simp only [LErr.num]; simp; done))); (refine st rfl ?_; conv => arg 3; whnf)) | (refine n_brF ?_ ?_; (focus (first | (simp [LErr.num]; done) | (simp [LErr.num]; omega) | (simp only [LErr.num]; simp; done))); (refine st rfl ?_; conv => arg 3; whnf)) | (refine n_must (by (with_reducible refine and_shape ?_) <;> kernel_rfl) ?_; (refine st rfl ?_; conv => arg 3; whnf))))
      exact n_ret0 rfl rfl fun ids' w' hp hI' => ⟨rfl, hI'.frm, hI'.blk_at hp 0 rfl rfl rfl⟩
    · (refine st rfl ?_; conv => arg 3; whnf)
      (repeat (first | (refine n_must rfl ?_; (refine st rfl ?_; conv => arg 3; whnf)) | (refine n_chk (drawF_ok (by decide +kernel)) ?_; (refine st rfl ?_; conv => arg 3; whnf)) | (refine n_same rfl ?_; (refine st rfl ?_; conv => arg 3; whnf)) | (refine n_brT ?_ ?_; (focus (simp <;> fail)); (refine st rfl ?_; conv => arg 3; whnf)) | (refine n_brF ?_ ?_; (focus (simp <;> fail)); (refine st rfl ?_; conv => arg 3; whnf))))
      refine n_sameP (.int .i64 (giveF s.u y)) rfl rfl rfl (fun _ w1 hp1 hI1 => rGive_ok s.u y hu w1) ?_; (refine st rfl ?_; conv => arg 3; whnf)
      (repeat (first | (refine n_must rfl ?_; (refine st rfl ?_; conv => arg 3; whnf)) | (refine n_chk (drawF_ok (by decide +kernel)) ?_; (refine st rfl ?_; conv => arg 3; whnf)) | (refine n_same rfl ?_; (refine st rfl ?_; conv => arg 3; whnf)) | (refine n_brT ?_ ?_; (focus (simp <;> fail)); (refine st rfl ?_; conv => arg 3; whnf)) | (refine n_brF ?_ ?_; (focus (simp <;> fail)); (refine st rfl ?_; conv => arg 3; whnf))))
      refine n_updP 0 (.int .i64 (s.out (giveF s.d x) (giveF s.u y)).2.num) (s.out (giveF s.d x) (giveF s.u y)).1.sv rfl rfl rfl rfl rfl rfl rfl (fun _ w1 hp1 hI1 => rOut_ok s ok (hI1.blk_at hp1 0 rfl rfl rfl) (giveF s.d x) (giveF s.u y)) ?_
      rw [hout]
      (refine st rfl ?_; conv => arg 3; whnf)
      (repeat (first | (refine n_must rfl ?_; (refine st rfl ?_; conv => arg 3; whnf)) | (refine n_chk (drawF_ok (by decide +kernel)) ?_; (refine st rfl ?_; conv => arg 3; whnf)) | (refine n_same rfl ?_; (refine st rfl ?_; conv => arg 3; whnf)) | (refine n_must ?_ ?_; (focus (first | (simp [LErr.num]; done) | (simp [LErr.num]; omega) | (simp only [LErr.num]; simp; done))); (refine st rfl ?_; conv => arg 3; whnf)) | (refine n_brT ?_ ?_; (focus (first | (simp [LErr.num]; done) | (simp [LErr.num]; omega) | (simp only [LErr.num]; simp; done))); (refine st rfl ?_; conv => arg 3; whnf)) | (refine n_brF ?_ ?_; (focus (first | (simp [LErr.num]; done) | (simp [LErr.num]; omega) | (simp only [LErr.num]; simp; done))); (refine st rfl ?_; conv => arg 3; whnf)) | (refine n_must (by (with_reducible refine and_shape ?_) <;> kernel_rfl) ?_; (refine st rfl ?_; conv => arg 3; whnf))))
      exact n_ret0 rfl rfl fun ids' w' hp hI' => ⟨rfl, hI'.frm, hI'.blk_at hp 0 rfl rfl rfl⟩
  · (refine st rfl ?_; conv => arg 3; whnf)
    (repeat (first | (refine n_must rfl ?_; (refine st rfl ?_; conv => arg 3; whnf)) | (refine n_chk (drawF_ok (by decide +kernel)) ?_; (refine st rfl ?_; conv => arg 3; whnf)) | (refine n_same rfl ?_; (refine st rfl ?_; conv => arg 3; whnf)) | (refine n_brT ?_ ?_; (focus (simp <;> fail)); (refine st rfl ?_; conv => arg 3; whnf)) | (refine n_brF ?_ ?_; (focus (simp <;> fail)); (refine st rfl ?_; conv => arg 3; whnf))))
    refine n_sameP (.int .i64 (giveF s.d x)) rfl rfl rfl (fun _ w1 hp1 hI1 => rGive_ok s.d x hd w1) ?_; (refine st rfl ?_; conv => arg 3; whnf)
    (repeat (first | (refine n_must rfl ?_; (refine st rfl ?_; conv => arg 3; whnf)) | (refine n_chk (drawF_ok (by decide +kernel)) ?_; (refine st rfl ?_; conv => arg 3; whnf)) | (refine n_same rfl ?_; (refine st rfl ?_; conv => arg 3; whnf)) | (refine n_brT ?_ ?_; (focus (simp <;> fail)); (refine st rfl ?_; conv => arg 3; whnf)) | (refine n_brF ?_ ?_; (focus (simp <;> fail)); (refine st rfl ?_; conv => arg 3; whnf))))
    refine n_sameP (.int .i64 (giveF s.u y)) rfl rfl rfl (fun _ w1 hp1 hI1 => rGive_ok s.u y hu w1) ?_; (refine st rfl ?_; conv => arg 3; whnf)
    (repeat (first | (refine n_must rfl ?_; (refine st rfl ?_; conv => arg 3; whnf)) | (refine n_chk (drawF_ok (by decide +kernel)) ?_; (refine st rfl ?_; conv => arg 3; whnf)) | (refine n_same rfl ?_; (refine st rfl ?_; conv => arg 3; whnf)) | (refine n_brT ?_ ?_; (focus (simp <;> fail)); (refine st rfl ?_; conv => arg 3; whnf)) | (refine n_brF ?_ ?_; (focus (simp <;> fail)); (refine st rfl ?_; conv => arg 3; whnf))))
    refine n_updP 0 (.int .i64 (s.out (giveF s.d x) (giveF s.u y)).2.num) (s.out (giveF s.d x) (giveF s.u y)).1.sv rfl rfl rfl rfl rfl rfl rfl (fun _ w1 hp1 hI1 => rOut_ok s ok (hI1.blk_at hp1 0 rfl rfl rfl) (giveF s.d x) (giveF s.u y)) ?_
    rw [hout]
    (refine st rfl ?_; conv => arg 3; whnf)
    (repeat (first | (refine n_must rfl ?_; (refine st rfl ?_; conv => arg 3; whnf)) | (refine n_chk (drawF_ok (by decide +kernel)) ?_; (refine st rfl ?_; conv => arg 3; whnf)) | (refine n_same rfl ?_; (refine st rfl ?_; conv => arg 3; whnf)) | (refine n_must ?_ ?_; (focus (first | (simp [LErr.num]; done) | (simp [LErr.num]; omega) | (simp only [LErr.num]; simp; done))); (refine st rfl ?_; conv => arg 3; whnf)) | (refine n_brT ?_ ?_; (focus (first | (simp [LErr.num]; done) | (simp [LErr.num]; omega) | (simp only [LErr.num]; simp; done))); (refine st rfl ?_; conv => arg 3; whnf)) | (refine n_brF ?_ ?_; (focus (first | (simp [LErr.num]; done) | (simp [LErr.num]; omega) | (simp only [LErr.num]; simp; done))); (refine st rfl ?_; conv => arg 3; whnf)) | (refine n_must (by (with_reducible refine and_shape ?_) <;> kernel_rfl) ?_; (refine st rfl ?_; conv => arg 3; whnf))))
    exact n_ret0 rfl rfl fun ids' w' hp hI' => ⟨rfl, hI'.frm, hI'.blk_at hp 0 rfl rfl rfl⟩
end Go.Proofs.YtapiakcfjhedpaaDoor
