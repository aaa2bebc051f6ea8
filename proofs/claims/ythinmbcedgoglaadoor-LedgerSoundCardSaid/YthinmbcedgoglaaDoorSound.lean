/- The law that the ledger is sound, without the document's answer. -/
import Derived.Test.YthinmbcedgoglaaDoorLoop
set_option maxRecDepth 100000
set_option maxHeartbeats 4000000
set_option linter.unusedSimpArgs false
set_option linter.unusedVariables false
namespace Go.Proofs.YthinmbcedgoglaaDoor
open Go.RowKit

def Led.does (s : Led) (k a b : Int) : Led × LErr := if k = 6 then s.in_ a b else if k = 7 then s.out a b else if k = 9 then s.setD a else if k = 10 then s.recap a b else s.turn (fromTo k).1 (fromTo k).2 a
theorem Led.ok.does {s : Led} (ok : s.ok) (k a b : Int) : (s.does k a b).1.ok := by
  unfold Led.does
  repeat' split
  · exact ok.in_ _ _
  · exact ok.out _ _
  · exact ok.setD _
  · exact ok.recap _ _
  · exact ok.turn _ _

/-- What a call does to the sum. -/
def Led.diff (s : Led) (k a b : Int) : Int := if k = 6 then a + b else if k = 7 then -a - b else if k = 10 then a - s.lim else 0
theorem does_err {s s' : Led} {k a b : Int} {r : LErr} (h : s.does k a b = (s', r)) (hr : r ≠ .ok) : s' = s := by
  unfold Led.does Led.in_ Led.out Led.setD Led.recap Led.turn at h
  repeat' split at h
  all_goals (simp only [Prod.mk.injEq] at h; first | exact h.1.symm | exact absurd h.2.symm hr)
theorem does_fine {s s' : Led} {k a b : Int} (ok : s.ok) (h : s.does k a b = (s', .ok)) :
    s'.all = s.all + s.diff k a b ∧ (k ≠ 10 → s'.lim = s.lim ∧ s'.n = s.n) ∧ (k = 10 → s'.lim = a) ∧ (k = 6 → 0 ≤ a ∧ 0 ≤ b ∧ a + b ≤ s.lim) ∧ (k = 7 → 0 ≤ a ∧ 0 ≤ b ∧ a ≤ s.d ∧ b ≤ s.u) := by
  obtain ⟨d, u, hh, lim, n⟩ := s
  obtain ⟨d0, u0, h0, sum, one, cap⟩ := ok
  dsimp only at d0 u0 h0 sum one cap
  unfold Led.does at h
  split at h
  · rename_i hk
    subst hk
    simp only [Led.in_] at h
    repeat' split at h
    all_goals simp only [Prod.mk.injEq, reduceCtorEq, and_false] at h
    obtain ⟨rfl, _⟩ := h
    simp [Led.all, Led.diff]; omega
  · split at h
    · rename_i hk
      subst hk
      simp only [Led.out] at h
      repeat' split at h
      all_goals simp only [Prod.mk.injEq, reduceCtorEq, and_false] at h
      obtain ⟨rfl, _⟩ := h
      simp [Led.all, Led.diff]; omega
    · split at h
      · rename_i hk
        subst hk
        simp only [Led.setD] at h
        repeat' split at h
        all_goals simp only [Prod.mk.injEq, reduceCtorEq, and_false] at h
        obtain ⟨rfl, _⟩ := h
        simp [Led.all, Led.diff]; omega
      · split at h
        · rename_i hk
          subst hk
          simp only [Led.recap] at h
          repeat' split at h
          all_goals simp only [Prod.mk.injEq, reduceCtorEq, and_false] at h
          obtain ⟨rfl, _⟩ := h
          simp [Led.all, Led.diff]; omega
        · rename_i k6 k7 k9 k10
          have e : Led.diff ⟨d, u, hh, lim, n⟩ k a b = 0 := by simp [Led.diff, k6, k7, k10]
          rw [e]
          refine ⟨?_, ?_, fun h => absurd h k10, fun h => absurd h k6, fun h => absurd h k7⟩
          · rcases fromTo_five k with ⟨e1, e2⟩ | ⟨e1, e2⟩ | ⟨e1, e2⟩ | ⟨e1, e2⟩ | ⟨e1, e2⟩ <;> rw [e1, e2] at h <;> simp only [Led.turn, Led.get, Led.set] at h <;> repeat' split at h
            all_goals simp only [Prod.mk.injEq, reduceCtorEq, and_false] at h
            all_goals (obtain ⟨rfl, _⟩ := h; simp [Led.all]; omega)
          · intro _
            rcases fromTo_five k with ⟨e1, e2⟩ | ⟨e1, e2⟩ | ⟨e1, e2⟩ | ⟨e1, e2⟩ | ⟨e1, e2⟩ <;> rw [e1, e2] at h <;> simp only [Led.turn, Led.get, Led.set] at h <;> repeat' split at h
            all_goals simp only [Prod.mk.injEq, reduceCtorEq, and_false] at h
            all_goals (obtain ⟨rfl, _⟩ := h; exact ⟨rfl, rfl⟩)

theorem does_ok {b0 b1 : Nat} {w : World} {a0 a1 a2 : Addr} (hs : Sents b0 w a0 a1 a2) (hb0 : b0 ≤ b1) (hB : b0 ≤ w.heap.size) (s : Led) (ok : s.ok) (hb : Blk w b1 s.cells 62) (k who a b : Int) :
    Calls Tryd.prog 29 #[.pointer (some ⟨b1, 0, none⟩), .agg #[.int .i64 k, .int .i64 who, .int .i64 a, .int .i64 b]] w fun e w' => e = .returned (.int .i64 (s.does k a b).2.num) ∧ Frm [b1] w w' ∧ Blk w' b1 (s.does k a b).1.cells 62 := by
  have hI := ledInv (N := 45) (os := []) hb
  have hS : ∀ y ∈ [b1], b0 ≤ y := by simpa using hb0
  refine calls_sm (cx 45 [] [b1] w) (vals := [.ptr 0 0, .agg [.int .i64 k, .int .i64 who, .int .i64 a, .int .i64 b]]) mixed Tryd.func29 rfl rfl rfl hI rfl (st rfl ?_); conv => arg 3; whnf
  (repeat (first | (refine n_must rfl ?_; (refine st rfl ?_; conv => arg 3; whnf)) | (refine n_chk (drawF_ok (by decide +kernel)) ?_; (refine st rfl ?_; conv => arg 3; whnf)) | (refine n_same rfl ?_; (refine st rfl ?_; conv => arg 3; whnf)) | (refine n_brT ?_ ?_; (focus (simp <;> fail)); (refine st rfl ?_; conv => arg 3; whnf)) | (refine n_brF ?_ ?_; (focus (simp <;> fail)); (refine st rfl ?_; conv => arg 3; whnf))))
  refine n_br (fun k6 => ?_) (fun k6 => ?_) <;> simp at k6 <;> (refine st rfl ?_; conv => arg 3; whnf)
  · have e : s.does k a b = s.in_ a b := by simp [Led.does, k6]
    rw [e]
    (repeat (first | (refine n_must rfl ?_; (refine st rfl ?_; conv => arg 3; whnf)) | (refine n_chk (drawF_ok (by decide +kernel)) ?_; (refine st rfl ?_; conv => arg 3; whnf)) | (refine n_same rfl ?_; (refine st rfl ?_; conv => arg 3; whnf)) | (refine n_brT ?_ ?_; (focus (simp <;> fail)); (refine st rfl ?_; conv => arg 3; whnf)) | (refine n_brF ?_ ?_; (focus (simp <;> fail)); (refine st rfl ?_; conv => arg 3; whnf))))
    refine n_updP 0 (.int .i64 (s.in_ a b).2.num) ((s.in_ a b).1.sv) rfl rfl rfl rfl rfl rfl rfl (fun _ w1 hp1 hI1 => In_ok (hs.frm hI1.frm hS hB) hb0 (Nat.le_trans hB hI1.frm.size) s ok (hI1.blk_at hp1 0 rfl rfl rfl) a b) ?_; (refine st rfl ?_; conv => arg 3; whnf)
    (repeat (first | (refine n_must rfl ?_; (refine st rfl ?_; conv => arg 3; whnf)) | (refine n_chk (drawF_ok (by decide +kernel)) ?_; (refine st rfl ?_; conv => arg 3; whnf)) | (refine n_same rfl ?_; (refine st rfl ?_; conv => arg 3; whnf)) | (refine n_brT ?_ ?_; (focus (simp <;> fail)); (refine st rfl ?_; conv => arg 3; whnf)) | (refine n_brF ?_ ?_; (focus (simp <;> fail)); (refine st rfl ?_; conv => arg 3; whnf))))
    exact n_ret0 rfl rfl fun ids' w' hp hI' => ⟨rfl, hI'.frm, (hI'.blk_at hp 0 rfl rfl rfl)⟩
  · refine n_br (fun k7 => ?_) (fun k7 => ?_) <;> simp at k7 <;> (refine st rfl ?_; conv => arg 3; whnf)
    · have e : s.does k a b = s.out a b := by simp [Led.does, k7]
      rw [e]
      (repeat (first | (refine n_must rfl ?_; (refine st rfl ?_; conv => arg 3; whnf)) | (refine n_chk (drawF_ok (by decide +kernel)) ?_; (refine st rfl ?_; conv => arg 3; whnf)) | (refine n_same rfl ?_; (refine st rfl ?_; conv => arg 3; whnf)) | (refine n_brT ?_ ?_; (focus (simp <;> fail)); (refine st rfl ?_; conv => arg 3; whnf)) | (refine n_brF ?_ ?_; (focus (simp <;> fail)); (refine st rfl ?_; conv => arg 3; whnf))))
      refine n_updP 0 (.int .i64 (s.out a b).2.num) ((s.out a b).1.sv) rfl rfl rfl rfl rfl rfl rfl (fun _ w1 hp1 hI1 => Out_ok (hs.frm hI1.frm hS hB) hb0 (Nat.le_trans hB hI1.frm.size) s ok (hI1.blk_at hp1 0 rfl rfl rfl) a b) ?_; (refine st rfl ?_; conv => arg 3; whnf)
      (repeat (first | (refine n_must rfl ?_; (refine st rfl ?_; conv => arg 3; whnf)) | (refine n_chk (drawF_ok (by decide +kernel)) ?_; (refine st rfl ?_; conv => arg 3; whnf)) | (refine n_same rfl ?_; (refine st rfl ?_; conv => arg 3; whnf)) | (refine n_brT ?_ ?_; (focus (simp <;> fail)); (refine st rfl ?_; conv => arg 3; whnf)) | (refine n_brF ?_ ?_; (focus (simp <;> fail)); (refine st rfl ?_; conv => arg 3; whnf))))
      exact n_ret0 rfl rfl fun ids' w' hp hI' => ⟨rfl, hI'.frm, (hI'.blk_at hp 0 rfl rfl rfl)⟩
    · refine n_br (fun k9 => ?_) (fun k9 => ?_) <;> simp at k9 <;> (refine st rfl ?_; conv => arg 3; whnf)
      · have e : s.does k a b = s.setD a := by simp [Led.does, k9]
        rw [e]
        (repeat (first | (refine n_must rfl ?_; (refine st rfl ?_; conv => arg 3; whnf)) | (refine n_chk (drawF_ok (by decide +kernel)) ?_; (refine st rfl ?_; conv => arg 3; whnf)) | (refine n_same rfl ?_; (refine st rfl ?_; conv => arg 3; whnf)) | (refine n_brT ?_ ?_; (focus (simp <;> fail)); (refine st rfl ?_; conv => arg 3; whnf)) | (refine n_brF ?_ ?_; (focus (simp <;> fail)); (refine st rfl ?_; conv => arg 3; whnf))))
        refine n_updP 0 (.int .i64 (s.setD a).2.num) ((s.setD a).1.sv) rfl rfl rfl rfl rfl rfl rfl (fun _ w1 hp1 hI1 => Set_ok (hs.frm hI1.frm hS hB) hb0 (Nat.le_trans hB hI1.frm.size) s ok (hI1.blk_at hp1 0 rfl rfl rfl) a) ?_; (refine st rfl ?_; conv => arg 3; whnf)
        (repeat (first | (refine n_must rfl ?_; (refine st rfl ?_; conv => arg 3; whnf)) | (refine n_chk (drawF_ok (by decide +kernel)) ?_; (refine st rfl ?_; conv => arg 3; whnf)) | (refine n_same rfl ?_; (refine st rfl ?_; conv => arg 3; whnf)) | (refine n_brT ?_ ?_; (focus (simp <;> fail)); (refine st rfl ?_; conv => arg 3; whnf)) | (refine n_brF ?_ ?_; (focus (simp <;> fail)); (refine st rfl ?_; conv => arg 3; whnf))))
        exact n_ret0 rfl rfl fun ids' w' hp hI' => ⟨rfl, hI'.frm, (hI'.blk_at hp 0 rfl rfl rfl)⟩
      · refine n_br (fun k10 => ?_) (fun k10 => ?_) <;> simp at k10 <;> (refine st rfl ?_; conv => arg 3; whnf)
        · have e : s.does k a b = s.recap a b := by simp [Led.does, k10]
          rw [e]
          (repeat (first | (refine n_must rfl ?_; (refine st rfl ?_; conv => arg 3; whnf)) | (refine n_chk (drawF_ok (by decide +kernel)) ?_; (refine st rfl ?_; conv => arg 3; whnf)) | (refine n_same rfl ?_; (refine st rfl ?_; conv => arg 3; whnf)) | (refine n_brT ?_ ?_; (focus (simp <;> fail)); (refine st rfl ?_; conv => arg 3; whnf)) | (refine n_brF ?_ ?_; (focus (simp <;> fail)); (refine st rfl ?_; conv => arg 3; whnf))))
          refine n_updP 0 (.int .i64 (s.recap a b).2.num) ((s.recap a b).1.sv) rfl rfl rfl rfl rfl rfl rfl (fun _ w1 hp1 hI1 => Recap_ok (hs.frm hI1.frm hS hB) hb0 (Nat.le_trans hB hI1.frm.size) s ok (hI1.blk_at hp1 0 rfl rfl rfl) a b) ?_; (refine st rfl ?_; conv => arg 3; whnf)
          (repeat (first | (refine n_must rfl ?_; (refine st rfl ?_; conv => arg 3; whnf)) | (refine n_chk (drawF_ok (by decide +kernel)) ?_; (refine st rfl ?_; conv => arg 3; whnf)) | (refine n_same rfl ?_; (refine st rfl ?_; conv => arg 3; whnf)) | (refine n_brT ?_ ?_; (focus (simp <;> fail)); (refine st rfl ?_; conv => arg 3; whnf)) | (refine n_brF ?_ ?_; (focus (simp <;> fail)); (refine st rfl ?_; conv => arg 3; whnf))))
          exact n_ret0 rfl rfl fun ids' w' hp hI' => ⟨rfl, hI'.frm, (hI'.blk_at hp 0 rfl rfl rfl)⟩
        · have e : s.does k a b = s.turn (fromTo k).1 (fromTo k).2 a := by simp [Led.does, k6, k7, k9, k10]
          rw [e]
          (repeat (first | (refine n_must rfl ?_; (refine st rfl ?_; conv => arg 3; whnf)) | (refine n_chk (drawF_ok (by decide +kernel)) ?_; (refine st rfl ?_; conv => arg 3; whnf)) | (refine n_same rfl ?_; (refine st rfl ?_; conv => arg 3; whnf)) | (refine n_brT ?_ ?_; (focus (simp <;> fail)); (refine st rfl ?_; conv => arg 3; whnf)) | (refine n_brF ?_ ?_; (focus (simp <;> fail)); (refine st rfl ?_; conv => arg 3; whnf))))
          refine n_updP 0 (.int .i64 (s.turn (fromTo k).1 (fromTo k).2 a).2.num) ((s.turn (fromTo k).1 (fromTo k).2 a).1.sv) rfl rfl rfl rfl rfl rfl rfl (fun _ w1 hp1 hI1 => turned_ok (hs.frm hI1.frm hS hB) hb0 (Nat.le_trans hB hI1.frm.size) s ok (hI1.blk_at hp1 0 rfl rfl rfl) k a) ?_; (refine st rfl ?_; conv => arg 3; whnf)
          (repeat (first | (refine n_must rfl ?_; (refine st rfl ?_; conv => arg 3; whnf)) | (refine n_chk (drawF_ok (by decide +kernel)) ?_; (refine st rfl ?_; conv => arg 3; whnf)) | (refine n_same rfl ?_; (refine st rfl ?_; conv => arg 3; whnf)) | (refine n_brT ?_ ?_; (focus (simp <;> fail)); (refine st rfl ?_; conv => arg 3; whnf)) | (refine n_brF ?_ ?_; (focus (simp <;> fail)); (refine st rfl ?_; conv => arg 3; whnf))))
          exact n_ret0 rfl rfl fun ids' w' hp hI' => ⟨rfl, hI'.frm, (hI'.blk_at hp 0 rfl rfl rfl)⟩
theorem does_at {b0 b1 : Nat} {w : World} {a0 a1 a2 : Addr} (hs : Sents b0 w a0 a1 a2) (hb0 : b0 ≤ b1) (hB : b0 ≤ w.heap.size) {s s' : Led} {r : LErr} (ok : s.ok) (hb : Blk w b1 s.cells 62) (k who a b : Int) (he : s.does k a b = (s', r)) :
    Calls Tryd.prog 29 #[.pointer (some ⟨b1, 0, none⟩), .agg #[.int .i64 k, .int .i64 who, .int .i64 a, .int .i64 b]] w fun e w' => e = .returned (.int .i64 r.num) ∧ Frm [b1] w w' ∧ Blk w' b1 s'.cells 62 := by
  have h := does_ok hs hb0 hB s ok hb k who a b
  rw [he] at h
  exact h

theorem sound_ok {b : Nat} {w : World} (s : Led) (ok : s.ok) (hb : Blk w b s.cells 62) :
    Calls Tryd.prog 30 #[.pointer (some ⟨b, 0, none⟩)] w fun e w' => e = .returned (.bool true) ∧ Frm [] w w' := by
  have hI : Inv (cx 31 [] [] w) w [b] [⟨62, s.sv, false⟩] := (Inv.nil w).cons (by simp) rfl hb (by simp)
  obtain ⟨d0, u0, h0, sum, one, cap⟩ := ok
  refine calls_sm (cx 31 [] [] w) (vals := [.ptr 0 0]) mixed Tryd.func30 rfl rfl rfl hI rfl (st rfl ?_); conv => arg 3; whnf
  (repeat (first | (refine n_must rfl ?_; (refine st rfl ?_; conv => arg 3; whnf)) | (refine n_chk (drawF_ok (by decide +kernel)) ?_; (refine st rfl ?_; conv => arg 3; whnf)) | (refine n_same rfl ?_; (refine st rfl ?_; conv => arg 3; whnf)) | (refine n_brT ?_ ?_; (focus (simp <;> fail)); (refine st rfl ?_; conv => arg 3; whnf)) | (refine n_brF ?_ ?_; (focus (simp <;> fail)); (refine st rfl ?_; conv => arg 3; whnf))))
  refine n_sameP (.tup [.int .i64 s.lim, .int .i64 s.n]) rfl rfl rfl (fun _ w1 hp1 hI1 => Cap_ok s (hI1.blk_at hp1 0 rfl rfl rfl)) ?_; (refine st rfl ?_; conv => arg 3; whnf)
  (repeat (first | (refine n_must rfl ?_; (refine st rfl ?_; conv => arg 3; whnf)) | (refine n_chk (drawF_ok (by decide +kernel)) ?_; (refine st rfl ?_; conv => arg 3; whnf)) | (refine n_same rfl ?_; (refine st rfl ?_; conv => arg 3; whnf)) | (refine n_brT ?_ ?_; (focus (simp <;> fail)); (refine st rfl ?_; conv => arg 3; whnf)) | (refine n_brF ?_ ?_; (focus (simp <;> fail)); (refine st rfl ?_; conv => arg 3; whnf))))
  refine n_sameP (.agg [.int .i64 s.d, .int .i64 s.u]) rfl rfl rfl (fun _ w1 hp1 hI1 => Rights_ok s (hI1.blk_at hp1 0 rfl rfl rfl)) ?_; (refine st rfl ?_; conv => arg 3; whnf)
  (repeat (first | (refine n_must rfl ?_; (refine st rfl ?_; conv => arg 3; whnf)) | (refine n_chk (drawF_ok (by decide +kernel)) ?_; (refine st rfl ?_; conv => arg 3; whnf)) | (refine n_same rfl ?_; (refine st rfl ?_; conv => arg 3; whnf)) | (refine n_must ?_ ?_; (focus (first | (simp; done) | (simp; omega))); (refine st rfl ?_; conv => arg 3; whnf)) | (refine n_brT ?_ ?_; (focus (first | (simp; done) | (simp; omega))); (refine st rfl ?_; conv => arg 3; whnf)) | (refine n_brF ?_ ?_; (focus (first | (simp; done) | (simp; omega))); (refine st rfl ?_; conv => arg 3; whnf))))
  refine n_sameP (.agg [.int .i64 s.d, .int .i64 s.u]) rfl rfl rfl (fun _ w1 hp1 hI1 => Rights_ok s (hI1.blk_at hp1 0 rfl rfl rfl)) ?_; (refine st rfl ?_; conv => arg 3; whnf)
  (repeat (first | (refine n_must rfl ?_; (refine st rfl ?_; conv => arg 3; whnf)) | (refine n_chk (drawF_ok (by decide +kernel)) ?_; (refine st rfl ?_; conv => arg 3; whnf)) | (refine n_same rfl ?_; (refine st rfl ?_; conv => arg 3; whnf)) | (refine n_must ?_ ?_; (focus (first | (simp; done) | (simp; omega))); (refine st rfl ?_; conv => arg 3; whnf)) | (refine n_brT ?_ ?_; (focus (first | (simp; done) | (simp; omega))); (refine st rfl ?_; conv => arg 3; whnf)) | (refine n_brF ?_ ?_; (focus (first | (simp; done) | (simp; omega))); (refine st rfl ?_; conv => arg 3; whnf))))
  refine n_sameP (.int .i64 s.h) rfl rfl rfl (fun _ w1 hp1 hI1 => Held_ok s (hI1.blk_at hp1 0 rfl rfl rfl)) ?_; (refine st rfl ?_; conv => arg 3; whnf)
  (repeat (first | (refine n_must rfl ?_; (refine st rfl ?_; conv => arg 3; whnf)) | (refine n_chk (drawF_ok (by decide +kernel)) ?_; (refine st rfl ?_; conv => arg 3; whnf)) | (refine n_same rfl ?_; (refine st rfl ?_; conv => arg 3; whnf)) | (refine n_must ?_ ?_; (focus (first | (simp; done) | (simp; omega))); (refine st rfl ?_; conv => arg 3; whnf)) | (refine n_brT ?_ ?_; (focus (first | (simp; done) | (simp; omega))); (refine st rfl ?_; conv => arg 3; whnf)) | (refine n_brF ?_ ?_; (focus (first | (simp; done) | (simp; omega))); (refine st rfl ?_; conv => arg 3; whnf))))
  refine n_sameP (.int .i64 s.all) rfl rfl rfl (fun _ w1 hp1 hI1 => sum_ok s ⟨d0, u0, h0, sum, one, cap⟩ (hI1.blk_at hp1 0 rfl rfl rfl)) ?_; (refine st rfl ?_; conv => arg 3; whnf)
  (repeat (first | (refine n_must rfl ?_; (refine st rfl ?_; conv => arg 3; whnf)) | (refine n_chk (drawF_ok (by decide +kernel)) ?_; (refine st rfl ?_; conv => arg 3; whnf)) | (refine n_same rfl ?_; (refine st rfl ?_; conv => arg 3; whnf)) | (refine n_must ?_ ?_; (focus (first | (simp; done) | (simp; omega))); (refine st rfl ?_; conv => arg 3; whnf)) | (refine n_brT ?_ ?_; (focus (first | (simp; done) | (simp; omega))); (refine st rfl ?_; conv => arg 3; whnf)) | (refine n_brF ?_ ?_; (focus (first | (simp; done) | (simp; omega))); (refine st rfl ?_; conv => arg 3; whnf))))
  exact n_ret0 rfl rfl fun ids' w' hp hI' => ⟨ret_bool (decide_eq_true sum), hI'.frm⟩

theorem hear_cases (s : Led) (a b : Int) : (s.hear a b = ({ s with lim := a, n := b }, true) ∧ s.n < b) ∨ s.hear a b = (s, false) := by
  unfold Led.hear
  repeat' split
  · exact .inr rfl
  · exact .inr rfl
  · exact .inr rfl
  · exact .inl ⟨rfl, by omega⟩
theorem hear_at {b : Nat} {w : World} {s s' : Led} {r : Bool} (ok : s.ok) (hb : Blk w b s.cells 62) (x y : Int) (he : s.hear x y = (s', r)) :
    Calls Tryd.prog 28 #[.pointer (some ⟨b, 0, none⟩), .int .i64 x, .int .i64 y] w fun e w' => e = .returned (.bool r) ∧ Frm [b] w w' ∧ Blk w' b s'.cells 62 := by
  have h := Hear_ok s ok hb x y
  rw [he] at h
  exact h

theorem LedgerSound_ok {b0 : Nat} {w : World} {a0 a1 a2 : Addr} (hs : Sents b0 w a0 a1 a2) (hB : b0 ≤ w.heap.size) (x : Int) (hx : i64 x) {o : Option Addr} {n cap : Nat} {k who a b : Nat → Int} (hsc : Script w o n k who a b) :
    Calls Tryd.prog 9 #[.int .i64 x, .slice o n cap] w fun e w' => e = .returned (.bool true) ∧ Frm [] w w' := by
  have hI := Inv.nil (P := Tryd.prog) (N := 232) (S := []) (os := [(20, [(0, []), (2, []), (1, [2]), (3, []), (4, []), (5, []), (6, []), (8, []), (7, []), (9, []), (10, []), (11, []), (12, []), (13, []), (14, []), (15, []), (16, []), (17, []), (18, []), (19, []), (20, []), (21, []), (22, []), (23, []), (24, []), (25, []), (26, []), (27, []), (28, []), (29, []), (30, []), (31, []), (32, []), (33, []), (34, []), (35, []), (36, []), (37, []), (38, []), (39, []), (40, []), (41, []), (42, []), (43, [])]), (26, [(0, []), (2, []), (1, [2]), (3, []), (4, []), (5, []), (6, []), (8, []), (7, []), (9, []), (10, []), (11, []), (12, []), (13, []), (14, []), (15, []), (16, []), (17, []), (18, []), (19, []), (20, [])])]) w
  have hS : ∀ z ∈ ([] : List Nat), b0 ≤ z := by simp
  have hlen := hsc.len
  generalize hL : withinF x 1 1099511627776 = L
  have bL : 1 ≤ L ∧ L ≤ 1099511627776 := hL ▸ within_le (by omega)
  have cL : capB L = true := by simp [capB]; omega
  refine calls_sm (cx 232 [(20, [(0, []), (2, []), (1, [2]), (3, []), (4, []), (5, []), (6, []), (8, []), (7, []), (9, []), (10, []), (11, []), (12, []), (13, []), (14, []), (15, []), (16, []), (17, []), (18, []), (19, []), (20, []), (21, []), (22, []), (23, []), (24, []), (25, []), (26, []), (27, []), (28, []), (29, []), (30, []), (31, []), (32, []), (33, []), (34, []), (35, []), (36, []), (37, []), (38, []), (39, []), (40, []), (41, []), (42, []), (43, [])]), (26, [(0, []), (2, []), (1, [2]), (3, []), (4, []), (5, []), (6, []), (8, []), (7, []), (9, []), (10, []), (11, []), (12, []), (13, []), (14, []), (15, []), (16, []), (17, []), (18, []), (19, []), (20, [])])] [] w) (vals := [.int .i64 x, .raw (.slice o n cap)]) mixed Tryd.func9 rfl rfl rfl hI rfl (st rfl ?_); conv => arg 3; whnf
  (repeat (first | (refine n_must rfl ?_; (refine st rfl ?_; conv => arg 3; whnf)) | (refine n_chk (drawF_ok (by decide +kernel)) ?_; (refine st rfl ?_; conv => arg 3; whnf)) | (refine n_same rfl ?_; (refine st rfl ?_; conv => arg 3; whnf)) | (refine n_brT ?_ ?_; (focus (simp <;> fail)); (refine st rfl ?_; conv => arg 3; whnf)) | (refine n_brF ?_ ?_; (focus (simp <;> fail)); (refine st rfl ?_; conv => arg 3; whnf))))
  refine n_sameP (.lit true) rfl rfl rfl (fun _ w1 hp1 hI1 => alive_ok (hs.frm hI1.frm hS hB) (Nat.le_trans hB hI1.frm.size)) ?_; (refine st rfl ?_; conv => arg 3; whnf)
  (repeat (first | (refine n_must rfl ?_; (refine st rfl ?_; conv => arg 3; whnf)) | (refine n_chk (drawF_ok (by decide +kernel)) ?_; (refine st rfl ?_; conv => arg 3; whnf)) | (refine n_same rfl ?_; (refine st rfl ?_; conv => arg 3; whnf)) | (refine n_brT ?_ ?_; (focus (simp <;> fail)); (refine st rfl ?_; conv => arg 3; whnf)) | (refine n_brF ?_ ?_; (focus (simp <;> fail)); (refine st rfl ?_; conv => arg 3; whnf))))
  refine n_sameP (.int .i64 L) rfl rfl rfl (fun _ w1 hp1 hI1 => hL ▸ within_ok x 1 1099511627776 hx (by omega) (by omega) (by omega) w1) ?_; (refine st rfl ?_; conv => arg 3; whnf)
  (repeat (first | (refine n_must rfl ?_; (refine st rfl ?_; conv => arg 3; whnf)) | (refine n_chk (drawF_ok (by decide +kernel)) ?_; (refine st rfl ?_; conv => arg 3; whnf)) | (refine n_same rfl ?_; (refine st rfl ?_; conv => arg 3; whnf)) | (refine n_brT ?_ ?_; (focus (simp <;> fail)); (refine st rfl ?_; conv => arg 3; whnf)) | (refine n_brF ?_ ?_; (focus (simp <;> fail)); (refine st rfl ?_; conv => arg 3; whnf))))
  refine n_new (.tup [.ptr 0 0, .int .i64 0]) ⟨62, (Led.mk 0 0 0 L 0).sv, true⟩ _ _ rfl rfl rfl (fun _ => rfl) (fun _ => rfl) (fun w1 _ => New_1 L cL w1) fun b1 hb1 _ => ?_
  (refine st rfl ?_; conv => arg 3; whnf)
  (repeat (first | (refine n_must rfl ?_; (refine st rfl ?_; conv => arg 3; whnf)) | (refine n_chk (drawF_ok (by decide +kernel)) ?_; (refine st rfl ?_; conv => arg 3; whnf)) | (refine n_same rfl ?_; (refine st rfl ?_; conv => arg 3; whnf)) | (refine n_brT ?_ ?_; (focus (simp <;> fail)); (refine st rfl ?_; conv => arg 3; whnf)) | (refine n_brF ?_ ?_; (focus (simp <;> fail)); (refine st rfl ?_; conv => arg 3; whnf))))
  have hb0 : b0 ≤ b1 := Nat.le_trans hB hb1
  refine n_loop (σ := Nat × Led) (fun s => [(1, .raw (.slice o n cap)), (6, .ptr 0 0), (8, .int .i64 (s.1 : Nat))]) (fun s => [⟨62, s.2.sv, true⟩]) (fun s => s.1 ≤ n ∧ s.2.ok) (fun s => n - s.1) (0, Led.mk 0 0 0 L 0) mixed ⟨by simp, Led.new_ok cL⟩ (fun _ _ => rfl) rfl (by (repeat (first | exact trivial | refine ⟨⟨rfl, rfl⟩, ?_⟩))) (fun s _ => ⟨by (repeat (first | exact trivial | refine ⟨⟨_, rfl⟩, ?_⟩)), by (repeat (first | exact trivial | refine ⟨⟨_, rfl⟩, ?_⟩))⟩) fun s hJ => ?_
  obtain ⟨i, s⟩ := s
  obtain ⟨hi, ok⟩ := hJ
  dsimp only at hi ok ⊢
  (refine st rfl ?_; conv => arg 3; whnf)
  by_cases hlt : i < n ∧ i < 1000
  · obtain ⟨h1, h2⟩ := hlt
    have ei : IntKind.i64.wrap ((i : Int) + 1) = ((i + 1 : Nat) : Int) := by rw [w64 (by omega) (by omega)]; simp
    obtain ⟨ad, rfl, hload⟩ := hsc.load h1
    generalize k i = k at hload
    generalize who i = who at hload
    generalize a i = a at hload
    generalize b i = b at hload
    (repeat (first | (refine n_must rfl ?_; (refine st rfl ?_; conv => arg 3; whnf)) | (refine n_chk (drawF_ok (by decide +kernel)) ?_; (refine st rfl ?_; conv => arg 3; whnf)) | (refine n_same rfl ?_; (refine st rfl ?_; conv => arg 3; whnf)) | (refine n_must ?_ ?_; (focus (first | (simp; done) | (simp; omega))); (refine st rfl ?_; conv => arg 3; whnf)) | (refine n_brT ?_ ?_; (focus (first | (simp; done) | (simp; omega))); (refine st rfl ?_; conv => arg 3; whnf)) | (refine n_brF ?_ ?_; (focus (first | (simp; done) | (simp; omega))); (refine st rfl ?_; conv => arg 3; whnf))))
    refine n_ld (.agg [.int .i64 k, .int .i64 who, .int .i64 a, .int .i64 b]) rfl rfl hload ?_
    (refine st rfl ?_; conv => arg 3; whnf)
    (repeat (first | (refine n_must rfl ?_; (refine st rfl ?_; conv => arg 3; whnf)) | (refine n_chk (drawF_ok (by decide +kernel)) ?_; (refine st rfl ?_; conv => arg 3; whnf)) | (refine n_same rfl ?_; (refine st rfl ?_; conv => arg 3; whnf)) | (refine n_must ?_ ?_; (focus (first | (simp; done) | (simp; omega))); (refine st rfl ?_; conv => arg 3; whnf)) | (refine n_brT ?_ ?_; (focus (first | (simp; done) | (simp; omega))); (refine st rfl ?_; conv => arg 3; whnf)) | (refine n_brF ?_ ?_; (focus (first | (simp; done) | (simp; omega))); (refine st rfl ?_; conv => arg 3; whnf))))
    refine n_sameP (.agg [.int .i64 s.d, .int .i64 s.u]) rfl rfl rfl (fun _ w1 hp1 hI1 => Rights_ok s (hI1.blk_at hp1 0 rfl rfl rfl)) ?_; (refine st rfl ?_; conv => arg 3; whnf)
    (repeat (first | (refine n_must rfl ?_; (refine st rfl ?_; conv => arg 3; whnf)) | (refine n_chk (drawF_ok (by decide +kernel)) ?_; (refine st rfl ?_; conv => arg 3; whnf)) | (refine n_same rfl ?_; (refine st rfl ?_; conv => arg 3; whnf)) | (refine n_must ?_ ?_; (focus (first | (simp; done) | (simp; omega))); (refine st rfl ?_; conv => arg 3; whnf)) | (refine n_brT ?_ ?_; (focus (first | (simp; done) | (simp; omega))); (refine st rfl ?_; conv => arg 3; whnf)) | (refine n_brF ?_ ?_; (focus (first | (simp; done) | (simp; omega))); (refine st rfl ?_; conv => arg 3; whnf))))
    refine n_sameP (.int .i64 s.h) rfl rfl rfl (fun _ w1 hp1 hI1 => Held_ok s (hI1.blk_at hp1 0 rfl rfl rfl)) ?_; (refine st rfl ?_; conv => arg 3; whnf)
    (repeat (first | (refine n_must rfl ?_; (refine st rfl ?_; conv => arg 3; whnf)) | (refine n_chk (drawF_ok (by decide +kernel)) ?_; (refine st rfl ?_; conv => arg 3; whnf)) | (refine n_same rfl ?_; (refine st rfl ?_; conv => arg 3; whnf)) | (refine n_must ?_ ?_; (focus (first | (simp; done) | (simp; omega))); (refine st rfl ?_; conv => arg 3; whnf)) | (refine n_brT ?_ ?_; (focus (first | (simp; done) | (simp; omega))); (refine st rfl ?_; conv => arg 3; whnf)) | (refine n_brF ?_ ?_; (focus (first | (simp; done) | (simp; omega))); (refine st rfl ?_; conv => arg 3; whnf))))
    refine n_sameP (.tup [.int .i64 s.lim, .int .i64 s.n]) rfl rfl rfl (fun _ w1 hp1 hI1 => Cap_ok s (hI1.blk_at hp1 0 rfl rfl rfl)) ?_; (refine st rfl ?_; conv => arg 3; whnf)
    (repeat (first | (refine n_must rfl ?_; (refine st rfl ?_; conv => arg 3; whnf)) | (refine n_chk (drawF_ok (by decide +kernel)) ?_; (refine st rfl ?_; conv => arg 3; whnf)) | (refine n_same rfl ?_; (refine st rfl ?_; conv => arg 3; whnf)) | (refine n_must ?_ ?_; (focus (first | (simp; done) | (simp; omega))); (refine st rfl ?_; conv => arg 3; whnf)) | (refine n_brT ?_ ?_; (focus (first | (simp; done) | (simp; omega))); (refine st rfl ?_; conv => arg 3; whnf)) | (refine n_brF ?_ ?_; (focus (first | (simp; done) | (simp; omega))); (refine st rfl ?_; conv => arg 3; whnf))))
    refine n_sameP (.int .i64 s.all) rfl rfl rfl (fun _ w1 hp1 hI1 => sum_ok s ok (hI1.blk_at hp1 0 rfl rfl rfl)) ?_; (refine st rfl ?_; conv => arg 3; whnf)
    refine n_br (fun k8 => ?_) (fun k8 => ?_) <;> simp at k8 <;> (refine st rfl ?_; conv => arg 3; whnf)
    · have ok' := ok.all0
      (repeat (first | (refine n_must rfl ?_; (refine st rfl ?_; conv => arg 3; whnf)) | (refine n_chk (drawF_ok (by decide +kernel)) ?_; (refine st rfl ?_; conv => arg 3; whnf)) | (refine n_same rfl ?_; (refine st rfl ?_; conv => arg 3; whnf)) | (refine n_must ?_ ?_; (focus (first | (simp; done) | (simp; omega))); (refine st rfl ?_; conv => arg 3; whnf)) | (refine n_brT ?_ ?_; (focus (first | (simp; done) | (simp; omega))); (refine st rfl ?_; conv => arg 3; whnf)) | (refine n_brF ?_ ?_; (focus (first | (simp; done) | (simp; omega))); (refine st rfl ?_; conv => arg 3; whnf))))
      refine n_updP 0 (.agg [.int .i64 s.d, .int .i64 s.u]) (Led.sv { s with d := 0, u := 0 }) rfl rfl rfl rfl rfl rfl rfl (fun _ w1 hp1 hI1 => All_ok s (hI1.blk_at hp1 0 rfl rfl rfl)) ?_; (refine st rfl ?_; conv => arg 3; whnf)
      (repeat (first | (refine n_must rfl ?_; (refine st rfl ?_; conv => arg 3; whnf)) | (refine n_chk (drawF_ok (by decide +kernel)) ?_; (refine st rfl ?_; conv => arg 3; whnf)) | (refine n_same rfl ?_; (refine st rfl ?_; conv => arg 3; whnf)) | (refine n_must ?_ ?_; (focus (first | (simp; done) | (simp; omega))); (refine st rfl ?_; conv => arg 3; whnf)) | (refine n_brT ?_ ?_; (focus (first | (simp; done) | (simp; omega))); (refine st rfl ?_; conv => arg 3; whnf)) | (refine n_brF ?_ ?_; (focus (first | (simp; done) | (simp; omega))); (refine st rfl ?_; conv => arg 3; whnf))))
      refine n_sameP (.lit true) rfl rfl rfl (fun _ w1 hp1 hI1 => same_refl s.d s.u w1) ?_; (refine st rfl ?_; conv => arg 3; whnf)
      (repeat (first | (refine n_must rfl ?_; (refine st rfl ?_; conv => arg 3; whnf)) | (refine n_chk (drawF_ok (by decide +kernel)) ?_; (refine st rfl ?_; conv => arg 3; whnf)) | (refine n_same rfl ?_; (refine st rfl ?_; conv => arg 3; whnf)) | (refine n_must ?_ ?_; (focus (first | (simp; done) | (simp; omega))); (refine st rfl ?_; conv => arg 3; whnf)) | (refine n_brT ?_ ?_; (focus (first | (simp; done) | (simp; omega))); (refine st rfl ?_; conv => arg 3; whnf)) | (refine n_brF ?_ ?_; (focus (first | (simp; done) | (simp; omega))); (refine st rfl ?_; conv => arg 3; whnf))))
      refine n_sameP (.int .i64 s.h) rfl rfl rfl (fun _ w1 hp1 hI1 => by have h := sum_ok _ ok' (hI1.blk_at hp1 0 rfl rfl rfl); simpa [Led.all] using h) ?_; (refine st rfl ?_; conv => arg 3; whnf)
      (repeat (first | (refine n_must rfl ?_; (refine st rfl ?_; conv => arg 3; whnf)) | (refine n_chk (drawF_ok (by decide +kernel)) ?_; (refine st rfl ?_; conv => arg 3; whnf)) | (refine n_same rfl ?_; (refine st rfl ?_; conv => arg 3; whnf)) | (refine n_must ?_ ?_; (focus (first | (simp; done) | (simp; omega))); (refine st rfl ?_; conv => arg 3; whnf)) | (refine n_brT ?_ ?_; (focus (first | (simp; done) | (simp; omega))); (refine st rfl ?_; conv => arg 3; whnf)) | (refine n_brF ?_ ?_; (focus (first | (simp; done) | (simp; omega))); (refine st rfl ?_; conv => arg 3; whnf))))
      refine n_sameP (.int .i64 s.h) rfl rfl rfl (fun _ w1 hp1 hI1 => Held_ok ({ s with d := 0, u := 0 } : Led) (hI1.blk_at hp1 0 rfl rfl rfl)) ?_; (refine st rfl ?_; conv => arg 3; whnf)
      (repeat (first | (refine n_must rfl ?_; (refine st rfl ?_; conv => arg 3; whnf)) | (refine n_chk (drawF_ok (by decide +kernel)) ?_; (refine st rfl ?_; conv => arg 3; whnf)) | (refine n_same rfl ?_; (refine st rfl ?_; conv => arg 3; whnf)) | (refine n_must ?_ ?_; (focus (first | (simp; done) | (simp; omega))); (refine st rfl ?_; conv => arg 3; whnf)) | (refine n_brT ?_ ?_; (focus (first | (simp; done) | (simp; omega))); (refine st rfl ?_; conv => arg 3; whnf)) | (refine n_brF ?_ ?_; (focus (first | (simp; done) | (simp; omega))); (refine st rfl ?_; conv => arg 3; whnf))))
      refine n_sameP (.lit true) rfl rfl rfl (fun _ w1 hp1 hI1 => sound_ok _ ok' (hI1.blk_at hp1 0 rfl rfl rfl)) ?_; (refine st rfl ?_; conv => arg 3; whnf)
      (repeat (first | (refine n_must rfl ?_; (refine st rfl ?_; conv => arg 3; whnf)) | (refine n_chk (drawF_ok (by decide +kernel)) ?_; (refine st rfl ?_; conv => arg 3; whnf)) | (refine n_same rfl ?_; (refine st rfl ?_; conv => arg 3; whnf)) | (refine n_must ?_ ?_; (focus (first | (simp; done) | (simp; omega))); (refine st rfl ?_; conv => arg 3; whnf)) | (refine n_brT ?_ ?_; (focus (first | (simp; done) | (simp; omega))); (refine st rfl ?_; conv => arg 3; whnf)) | (refine n_brF ?_ ?_; (focus (first | (simp; done) | (simp; omega))); (refine st rfl ?_; conv => arg 3; whnf))))
      exact n_again ⟨(i + 1, { s with d := 0, u := 0 }), ⟨by dsimp only; omega, ok'⟩, by dsimp only; omega, (by (repeat (first | exact trivial | refine ⟨⟨rfl, rfl⟩, ?_⟩ | refine ⟨⟨rfl, congrArg (SV.int .i64) ei⟩, ?_⟩))), ⟨_, rfl⟩⟩
    · refine n_br (fun k11 => ?_) (fun k11 => ?_) <;> simp at k11 <;> (refine st rfl ?_; conv => arg 3; whnf)
      · rcases hear_cases s a b with ⟨he, hn⟩ | he
        · have ok' := ok.hear a b
          have hh := Hear_ok (w := w) (b := b1) s ok
          rw [he] at ok'
          dsimp only at ok'
          (repeat (first | (refine n_must rfl ?_; (refine st rfl ?_; conv => arg 3; whnf)) | (refine n_chk (drawF_ok (by decide +kernel)) ?_; (refine st rfl ?_; conv => arg 3; whnf)) | (refine n_same rfl ?_; (refine st rfl ?_; conv => arg 3; whnf)) | (refine n_must ?_ ?_; (focus (first | (simp; done) | (simp; omega))); (refine st rfl ?_; conv => arg 3; whnf)) | (refine n_brT ?_ ?_; (focus (first | (simp; done) | (simp; omega))); (refine st rfl ?_; conv => arg 3; whnf)) | (refine n_brF ?_ ?_; (focus (first | (simp; done) | (simp; omega))); (refine st rfl ?_; conv => arg 3; whnf))))
          refine n_updP 0 (.lit true) (Led.sv { s with lim := a, n := b }) rfl rfl rfl rfl rfl rfl rfl (fun _ w1 hp1 hI1 => hear_at ok (hI1.blk_at hp1 0 rfl rfl rfl) a b he) ?_; (refine st rfl ?_; conv => arg 3; whnf)
          (repeat (first | (refine n_must rfl ?_; (refine st rfl ?_; conv => arg 3; whnf)) | (refine n_chk (drawF_ok (by decide +kernel)) ?_; (refine st rfl ?_; conv => arg 3; whnf)) | (refine n_same rfl ?_; (refine st rfl ?_; conv => arg 3; whnf)) | (refine n_must ?_ ?_; (focus (first | (simp; done) | (simp; omega))); (refine st rfl ?_; conv => arg 3; whnf)) | (refine n_brT ?_ ?_; (focus (first | (simp; done) | (simp; omega))); (refine st rfl ?_; conv => arg 3; whnf)) | (refine n_brF ?_ ?_; (focus (first | (simp; done) | (simp; omega))); (refine st rfl ?_; conv => arg 3; whnf))))
          refine n_sameP (.tup [.int .i64 a, .int .i64 b]) rfl rfl rfl (fun _ w1 hp1 hI1 => Cap_ok ({ s with lim := a, n := b } : Led) (hI1.blk_at hp1 0 rfl rfl rfl)) ?_; (refine st rfl ?_; conv => arg 3; whnf)
          (repeat (first | (refine n_must rfl ?_; (refine st rfl ?_; conv => arg 3; whnf)) | (refine n_chk (drawF_ok (by decide +kernel)) ?_; (refine st rfl ?_; conv => arg 3; whnf)) | (refine n_same rfl ?_; (refine st rfl ?_; conv => arg 3; whnf)) | (refine n_must ?_ ?_; (focus (first | (simp; done) | (simp; omega))); (refine st rfl ?_; conv => arg 3; whnf)) | (refine n_brT ?_ ?_; (focus (first | (simp; done) | (simp; omega))); (refine st rfl ?_; conv => arg 3; whnf)) | (refine n_brF ?_ ?_; (focus (first | (simp; done) | (simp; omega))); (refine st rfl ?_; conv => arg 3; whnf))))
          refine n_sameP (.agg [.int .i64 s.d, .int .i64 s.u]) rfl rfl rfl (fun _ w1 hp1 hI1 => Rights_ok ({ s with lim := a, n := b } : Led) (hI1.blk_at hp1 0 rfl rfl rfl)) ?_; (refine st rfl ?_; conv => arg 3; whnf)
          (repeat (first | (refine n_must rfl ?_; (refine st rfl ?_; conv => arg 3; whnf)) | (refine n_chk (drawF_ok (by decide +kernel)) ?_; (refine st rfl ?_; conv => arg 3; whnf)) | (refine n_same rfl ?_; (refine st rfl ?_; conv => arg 3; whnf)) | (refine n_must ?_ ?_; (focus (first | (simp; done) | (simp; omega))); (refine st rfl ?_; conv => arg 3; whnf)) | (refine n_brT ?_ ?_; (focus (first | (simp; done) | (simp; omega))); (refine st rfl ?_; conv => arg 3; whnf)) | (refine n_brF ?_ ?_; (focus (first | (simp; done) | (simp; omega))); (refine st rfl ?_; conv => arg 3; whnf))))
          refine n_sameP (.lit true) rfl rfl rfl (fun _ w1 hp1 hI1 => same_refl s.d s.u w1) ?_; (refine st rfl ?_; conv => arg 3; whnf)
          (repeat (first | (refine n_must rfl ?_; (refine st rfl ?_; conv => arg 3; whnf)) | (refine n_chk (drawF_ok (by decide +kernel)) ?_; (refine st rfl ?_; conv => arg 3; whnf)) | (refine n_same rfl ?_; (refine st rfl ?_; conv => arg 3; whnf)) | (refine n_must ?_ ?_; (focus (first | (simp; done) | (simp; omega))); (refine st rfl ?_; conv => arg 3; whnf)) | (refine n_brT ?_ ?_; (focus (first | (simp; done) | (simp; omega))); (refine st rfl ?_; conv => arg 3; whnf)) | (refine n_brF ?_ ?_; (focus (first | (simp; done) | (simp; omega))); (refine st rfl ?_; conv => arg 3; whnf))))
          refine n_sameP (.int .i64 s.h) rfl rfl rfl (fun _ w1 hp1 hI1 => Held_ok ({ s with lim := a, n := b } : Led) (hI1.blk_at hp1 0 rfl rfl rfl)) ?_; (refine st rfl ?_; conv => arg 3; whnf)
          (repeat (first | (refine n_must rfl ?_; (refine st rfl ?_; conv => arg 3; whnf)) | (refine n_chk (drawF_ok (by decide +kernel)) ?_; (refine st rfl ?_; conv => arg 3; whnf)) | (refine n_same rfl ?_; (refine st rfl ?_; conv => arg 3; whnf)) | (refine n_must ?_ ?_; (focus (first | (simp; done) | (simp; omega))); (refine st rfl ?_; conv => arg 3; whnf)) | (refine n_brT ?_ ?_; (focus (first | (simp; done) | (simp; omega))); (refine st rfl ?_; conv => arg 3; whnf)) | (refine n_brF ?_ ?_; (focus (first | (simp; done) | (simp; omega))); (refine st rfl ?_; conv => arg 3; whnf))))
          refine n_sameP (.lit true) rfl rfl rfl (fun _ w1 hp1 hI1 => sound_ok _ ok' (hI1.blk_at hp1 0 rfl rfl rfl)) ?_; (refine st rfl ?_; conv => arg 3; whnf)
          (repeat (first | (refine n_must rfl ?_; (refine st rfl ?_; conv => arg 3; whnf)) | (refine n_chk (drawF_ok (by decide +kernel)) ?_; (refine st rfl ?_; conv => arg 3; whnf)) | (refine n_same rfl ?_; (refine st rfl ?_; conv => arg 3; whnf)) | (refine n_must ?_ ?_; (focus (first | (simp; done) | (simp; omega))); (refine st rfl ?_; conv => arg 3; whnf)) | (refine n_brT ?_ ?_; (focus (first | (simp; done) | (simp; omega))); (refine st rfl ?_; conv => arg 3; whnf)) | (refine n_brF ?_ ?_; (focus (first | (simp; done) | (simp; omega))); (refine st rfl ?_; conv => arg 3; whnf))))
          exact n_again ⟨(i + 1, { s with lim := a, n := b }), ⟨by dsimp only; omega, ok'⟩, by dsimp only; omega, (by (repeat (first | exact trivial | refine ⟨⟨rfl, rfl⟩, ?_⟩ | refine ⟨⟨rfl, congrArg (SV.int .i64) ei⟩, ?_⟩))), ⟨_, rfl⟩⟩
        · have ok' := ok
          (repeat (first | (refine n_must rfl ?_; (refine st rfl ?_; conv => arg 3; whnf)) | (refine n_chk (drawF_ok (by decide +kernel)) ?_; (refine st rfl ?_; conv => arg 3; whnf)) | (refine n_same rfl ?_; (refine st rfl ?_; conv => arg 3; whnf)) | (refine n_must ?_ ?_; (focus (first | (simp; done) | (simp; omega))); (refine st rfl ?_; conv => arg 3; whnf)) | (refine n_brT ?_ ?_; (focus (first | (simp; done) | (simp; omega))); (refine st rfl ?_; conv => arg 3; whnf)) | (refine n_brF ?_ ?_; (focus (first | (simp; done) | (simp; omega))); (refine st rfl ?_; conv => arg 3; whnf))))
          refine n_updP 0 (.lit false) (s.sv) rfl rfl rfl rfl rfl rfl rfl (fun _ w1 hp1 hI1 => hear_at ok (hI1.blk_at hp1 0 rfl rfl rfl) a b he) ?_; (refine st rfl ?_; conv => arg 3; whnf)
          (repeat (first | (refine n_must rfl ?_; (refine st rfl ?_; conv => arg 3; whnf)) | (refine n_chk (drawF_ok (by decide +kernel)) ?_; (refine st rfl ?_; conv => arg 3; whnf)) | (refine n_same rfl ?_; (refine st rfl ?_; conv => arg 3; whnf)) | (refine n_must ?_ ?_; (focus (first | (simp; done) | (simp; omega))); (refine st rfl ?_; conv => arg 3; whnf)) | (refine n_brT ?_ ?_; (focus (first | (simp; done) | (simp; omega))); (refine st rfl ?_; conv => arg 3; whnf)) | (refine n_brF ?_ ?_; (focus (first | (simp; done) | (simp; omega))); (refine st rfl ?_; conv => arg 3; whnf))))
          refine n_sameP (.tup [.int .i64 s.lim, .int .i64 s.n]) rfl rfl rfl (fun _ w1 hp1 hI1 => Cap_ok s (hI1.blk_at hp1 0 rfl rfl rfl)) ?_; (refine st rfl ?_; conv => arg 3; whnf)
          (repeat (first | (refine n_must rfl ?_; (refine st rfl ?_; conv => arg 3; whnf)) | (refine n_chk (drawF_ok (by decide +kernel)) ?_; (refine st rfl ?_; conv => arg 3; whnf)) | (refine n_same rfl ?_; (refine st rfl ?_; conv => arg 3; whnf)) | (refine n_must ?_ ?_; (focus (first | (simp; done) | (simp; omega))); (refine st rfl ?_; conv => arg 3; whnf)) | (refine n_brT ?_ ?_; (focus (first | (simp; done) | (simp; omega))); (refine st rfl ?_; conv => arg 3; whnf)) | (refine n_brF ?_ ?_; (focus (first | (simp; done) | (simp; omega))); (refine st rfl ?_; conv => arg 3; whnf))))
          refine n_sameP (.agg [.int .i64 s.d, .int .i64 s.u]) rfl rfl rfl (fun _ w1 hp1 hI1 => Rights_ok s (hI1.blk_at hp1 0 rfl rfl rfl)) ?_; (refine st rfl ?_; conv => arg 3; whnf)
          (repeat (first | (refine n_must rfl ?_; (refine st rfl ?_; conv => arg 3; whnf)) | (refine n_chk (drawF_ok (by decide +kernel)) ?_; (refine st rfl ?_; conv => arg 3; whnf)) | (refine n_same rfl ?_; (refine st rfl ?_; conv => arg 3; whnf)) | (refine n_must ?_ ?_; (focus (first | (simp; done) | (simp; omega))); (refine st rfl ?_; conv => arg 3; whnf)) | (refine n_brT ?_ ?_; (focus (first | (simp; done) | (simp; omega))); (refine st rfl ?_; conv => arg 3; whnf)) | (refine n_brF ?_ ?_; (focus (first | (simp; done) | (simp; omega))); (refine st rfl ?_; conv => arg 3; whnf))))
          refine n_sameP (.lit true) rfl rfl rfl (fun _ w1 hp1 hI1 => same_refl s.d s.u w1) ?_; (refine st rfl ?_; conv => arg 3; whnf)
          (repeat (first | (refine n_must rfl ?_; (refine st rfl ?_; conv => arg 3; whnf)) | (refine n_chk (drawF_ok (by decide +kernel)) ?_; (refine st rfl ?_; conv => arg 3; whnf)) | (refine n_same rfl ?_; (refine st rfl ?_; conv => arg 3; whnf)) | (refine n_must ?_ ?_; (focus (first | (simp; done) | (simp; omega))); (refine st rfl ?_; conv => arg 3; whnf)) | (refine n_brT ?_ ?_; (focus (first | (simp; done) | (simp; omega))); (refine st rfl ?_; conv => arg 3; whnf)) | (refine n_brF ?_ ?_; (focus (first | (simp; done) | (simp; omega))); (refine st rfl ?_; conv => arg 3; whnf))))
          refine n_sameP (.int .i64 s.h) rfl rfl rfl (fun _ w1 hp1 hI1 => Held_ok s (hI1.blk_at hp1 0 rfl rfl rfl)) ?_; (refine st rfl ?_; conv => arg 3; whnf)
          (repeat' (first | (refine n_must rfl ?_; (refine st rfl ?_; conv => arg 3; whnf)) | (refine n_chk (drawF_ok (by decide +kernel)) ?_; (refine st rfl ?_; conv => arg 3; whnf)) | (refine n_same rfl ?_; (refine st rfl ?_; conv => arg 3; whnf)) | (refine n_must ?_ ?_; (focus (first | (simp; done) | (simp; omega))); (refine st rfl ?_; conv => arg 3; whnf)) | (refine n_brT ?_ ?_; (focus (first | (simp; done) | (simp; omega))); (refine st rfl ?_; conv => arg 3; whnf)) | (refine n_brF ?_ ?_; (focus (first | (simp; done) | (simp; omega))); (refine st rfl ?_; conv => arg 3; whnf)) | (refine n_br (fun hbr => ?_) (fun hbr => ?_) <;> simp at hbr <;> (refine st rfl ?_; conv => arg 3; whnf))))
          all_goals
            refine n_sameP (.lit true) rfl rfl rfl (fun _ w1 hp1 hI1 => sound_ok s ok (hI1.blk_at hp1 0 rfl rfl rfl)) ?_; (refine st rfl ?_; conv => arg 3; whnf)
            (repeat (first | (refine n_must rfl ?_; (refine st rfl ?_; conv => arg 3; whnf)) | (refine n_chk (drawF_ok (by decide +kernel)) ?_; (refine st rfl ?_; conv => arg 3; whnf)) | (refine n_same rfl ?_; (refine st rfl ?_; conv => arg 3; whnf)) | (refine n_must ?_ ?_; (focus (first | (simp; done) | (simp; omega))); (refine st rfl ?_; conv => arg 3; whnf)) | (refine n_brT ?_ ?_; (focus (first | (simp; done) | (simp; omega))); (refine st rfl ?_; conv => arg 3; whnf)) | (refine n_brF ?_ ?_; (focus (first | (simp; done) | (simp; omega))); (refine st rfl ?_; conv => arg 3; whnf))))
            exact n_again ⟨(i + 1, s), ⟨by dsimp only; omega, ok'⟩, by dsimp only; omega, (by (repeat (first | exact trivial | refine ⟨⟨rfl, rfl⟩, ?_⟩ | refine ⟨⟨rfl, congrArg (SV.int .i64) ei⟩, ?_⟩))), ⟨_, rfl⟩⟩
      · by_cases hk : 1 ≤ k ∧ k ≤ 10
        · obtain ⟨hk1, hk2⟩ := hk
          obtain ⟨s', r, hd⟩ : ∃ s' r, s.does k a b = (s', r) := ⟨_, _, rfl⟩
          have ok' := ok.does k a b
          rw [hd] at ok'
          dsimp only at ok'
          (repeat (first | (refine n_must rfl ?_; (refine st rfl ?_; conv => arg 3; whnf)) | (refine n_chk (drawF_ok (by decide +kernel)) ?_; (refine st rfl ?_; conv => arg 3; whnf)) | (refine n_same rfl ?_; (refine st rfl ?_; conv => arg 3; whnf)) | (refine n_must ?_ ?_; (focus (first | (simp; done) | (simp; omega))); (refine st rfl ?_; conv => arg 3; whnf)) | (refine n_brT ?_ ?_; (focus (first | (simp; done) | (simp; omega))); (refine st rfl ?_; conv => arg 3; whnf)) | (refine n_brF ?_ ?_; (focus (first | (simp; done) | (simp; omega))); (refine st rfl ?_; conv => arg 3; whnf))))
          cases r with
          | ok =>
            obtain ⟨f1, f2, f3, f4, f5⟩ := does_fine ok hd
            obtain ⟨g1, g2, g3, g4, g5, g6⟩ := ok'
            have hall : 0 ≤ s'.all ∧ s'.all ≤ 1099511627776 := by unfold Led.all; omega
            have hall0 : 0 ≤ s.all ∧ s.all ≤ 1099511627776 := by obtain ⟨q1, q2, q3, q4, q5, q6⟩ := ok; unfold Led.all; omega
            have ok' : s'.ok := ⟨g1, g2, g3, g4, g5, g6⟩
            refine n_updP 0 (.int .i64 0) (s'.sv) rfl rfl rfl rfl rfl rfl rfl (fun _ w1 hp1 hI1 => does_at (hs.frm hI1.frm hS hB) hb0 (Nat.le_trans hB hI1.frm.size) ok (hI1.blk_at hp1 0 rfl rfl rfl) k who a b hd) ?_; (refine st rfl ?_; conv => arg 3; whnf)
            (repeat (first | (refine n_must rfl ?_; (refine st rfl ?_; conv => arg 3; whnf)) | (refine n_chk (drawF_ok (by decide +kernel)) ?_; (refine st rfl ?_; conv => arg 3; whnf)) | (refine n_same rfl ?_; (refine st rfl ?_; conv => arg 3; whnf)) | (refine n_must ?_ ?_; (focus (first | (simp; done) | (simp; omega))); (refine st rfl ?_; conv => arg 3; whnf)) | (refine n_brT ?_ ?_; (focus (first | (simp; done) | (simp; omega))); (refine st rfl ?_; conv => arg 3; whnf)) | (refine n_brF ?_ ?_; (focus (first | (simp; done) | (simp; omega))); (refine st rfl ?_; conv => arg 3; whnf))))
            refine n_sameP (.tup [.int .i64 s'.lim, .int .i64 s'.n]) rfl rfl rfl (fun _ w1 hp1 hI1 => Cap_ok s' (hI1.blk_at hp1 0 rfl rfl rfl)) ?_; (refine st rfl ?_; conv => arg 3; whnf)
            (repeat (first | (refine n_must rfl ?_; (refine st rfl ?_; conv => arg 3; whnf)) | (refine n_chk (drawF_ok (by decide +kernel)) ?_; (refine st rfl ?_; conv => arg 3; whnf)) | (refine n_same rfl ?_; (refine st rfl ?_; conv => arg 3; whnf)) | (refine n_must ?_ ?_; (focus (first | (simp; done) | (simp; omega))); (refine st rfl ?_; conv => arg 3; whnf)) | (refine n_brT ?_ ?_; (focus (first | (simp; done) | (simp; omega))); (refine st rfl ?_; conv => arg 3; whnf)) | (refine n_brF ?_ ?_; (focus (first | (simp; done) | (simp; omega))); (refine st rfl ?_; conv => arg 3; whnf))))
            refine n_br (fun k6 => ?_) (fun k6 => ?_) <;> simp at k6 <;> (refine st rfl ?_; conv => arg 3; whnf)
            · have e : IntKind.i64.wrap (s.all + IntKind.i64.wrap (a + b)) = s'.all := by
                have := f4 k6
                obtain ⟨q1, q2, q3, q4, q5, q6⟩ := ok
                rw [f1, w64 (n := a + b) (by omega) (by omega)]
                unfold Led.diff
                rw [if_pos k6, w64 (by omega) (by omega)]
              obtain ⟨e2, e3⟩ := f2 (by omega)
              (repeat (first | (refine n_must rfl ?_; (refine st rfl ?_; conv => arg 3; whnf)) | (refine n_chk (drawF_ok (by decide +kernel)) ?_; (refine st rfl ?_; conv => arg 3; whnf)) | (refine n_same rfl ?_; (refine st rfl ?_; conv => arg 3; whnf)) | (refine n_must ?_ ?_; (focus (first | (simp; done) | (simp; omega))); (refine st rfl ?_; conv => arg 3; whnf)) | (refine n_brT ?_ ?_; (focus (first | (simp; done) | (simp; omega))); (refine st rfl ?_; conv => arg 3; whnf)) | (refine n_brF ?_ ?_; (focus (first | (simp; done) | (simp; omega))); (refine st rfl ?_; conv => arg 3; whnf))))
              refine n_sameP (.int .i64 s'.all) rfl rfl rfl (fun _ w1 hp1 hI1 => sum_ok s' ok' (hI1.blk_at hp1 0 rfl rfl rfl)) ?_; (refine st rfl ?_; conv => arg 3; whnf)
              (repeat (first | (refine n_must rfl ?_; (refine st rfl ?_; conv => arg 3; whnf)) | (refine n_chk (drawF_ok (by decide +kernel)) ?_; (refine st rfl ?_; conv => arg 3; whnf)) | (refine n_same rfl ?_; (refine st rfl ?_; conv => arg 3; whnf)) | (refine n_must ?_ ?_; (focus (first | (simp [e, e2, e3]; done) | (simp [e, e2, e3]; omega) | (simp only [e, e2, e3]; simp; done))); (refine st rfl ?_; conv => arg 3; whnf)) | (refine n_brT ?_ ?_; (focus (first | (simp [e, e2, e3]; done) | (simp [e, e2, e3]; omega) | (simp only [e, e2, e3]; simp; done))); (refine st rfl ?_; conv => arg 3; whnf)) | (refine n_brF ?_ ?_; (focus (first | (simp [e, e2, e3]; done) | (simp [e, e2, e3]; omega) | (simp only [e, e2, e3]; simp; done))); (refine st rfl ?_; conv => arg 3; whnf))))
              refine n_sameP (.lit true) rfl rfl rfl (fun _ w1 hp1 hI1 => sound_ok s' ok' (hI1.blk_at hp1 0 rfl rfl rfl)) ?_; (refine st rfl ?_; conv => arg 3; whnf)
              (repeat (first | (refine n_must rfl ?_; (refine st rfl ?_; conv => arg 3; whnf)) | (refine n_chk (drawF_ok (by decide +kernel)) ?_; (refine st rfl ?_; conv => arg 3; whnf)) | (refine n_same rfl ?_; (refine st rfl ?_; conv => arg 3; whnf)) | (refine n_must ?_ ?_; (focus (first | (simp; done) | (simp; omega))); (refine st rfl ?_; conv => arg 3; whnf)) | (refine n_brT ?_ ?_; (focus (first | (simp; done) | (simp; omega))); (refine st rfl ?_; conv => arg 3; whnf)) | (refine n_brF ?_ ?_; (focus (first | (simp; done) | (simp; omega))); (refine st rfl ?_; conv => arg 3; whnf))))
              exact n_again ⟨(i + 1, s'), ⟨by dsimp only; omega, ok'⟩, by dsimp only; omega, (by (repeat (first | exact trivial | refine ⟨⟨rfl, rfl⟩, ?_⟩ | refine ⟨⟨rfl, congrArg (SV.int .i64) ei⟩, ?_⟩))), ⟨_, rfl⟩⟩
            · refine n_br (fun k7 => ?_) (fun k7 => ?_) <;> simp at k7 <;> (refine st rfl ?_; conv => arg 3; whnf)
              · have e : IntKind.i64.wrap (s.all + IntKind.i64.wrap (IntKind.i64.wrap (0 - a) - b)) = s'.all := by
                  have := f5 k7
                  obtain ⟨q1, q2, q3, q4, q5, q6⟩ := ok
                  rw [f1, w64 (n := 0 - a) (by omega) (by omega), w64 (n := 0 - a - b) (by omega) (by omega)]
                  unfold Led.diff
                  rw [if_neg k6, if_pos k7, w64 (by omega) (by omega)]
                  omega
                obtain ⟨e2, e3⟩ := f2 (by omega)
                (repeat (first | (refine n_must rfl ?_; (refine st rfl ?_; conv => arg 3; whnf)) | (refine n_chk (drawF_ok (by decide +kernel)) ?_; (refine st rfl ?_; conv => arg 3; whnf)) | (refine n_same rfl ?_; (refine st rfl ?_; conv => arg 3; whnf)) | (refine n_must ?_ ?_; (focus (first | (simp; done) | (simp; omega))); (refine st rfl ?_; conv => arg 3; whnf)) | (refine n_brT ?_ ?_; (focus (first | (simp; done) | (simp; omega))); (refine st rfl ?_; conv => arg 3; whnf)) | (refine n_brF ?_ ?_; (focus (first | (simp; done) | (simp; omega))); (refine st rfl ?_; conv => arg 3; whnf))))
                refine n_sameP (.int .i64 s'.all) rfl rfl rfl (fun _ w1 hp1 hI1 => sum_ok s' ok' (hI1.blk_at hp1 0 rfl rfl rfl)) ?_; (refine st rfl ?_; conv => arg 3; whnf)
                (repeat (first | (refine n_must rfl ?_; (refine st rfl ?_; conv => arg 3; whnf)) | (refine n_chk (drawF_ok (by decide +kernel)) ?_; (refine st rfl ?_; conv => arg 3; whnf)) | (refine n_same rfl ?_; (refine st rfl ?_; conv => arg 3; whnf)) | (refine n_must ?_ ?_; (focus (first | (simp [e, e2, e3]; done) | (simp [e, e2, e3]; omega) | (simp only [e, e2, e3]; simp; done))); (refine st rfl ?_; conv => arg 3; whnf)) | (refine n_brT ?_ ?_; (focus (first | (simp [e, e2, e3]; done) | (simp [e, e2, e3]; omega) | (simp only [e, e2, e3]; simp; done))); (refine st rfl ?_; conv => arg 3; whnf)) | (refine n_brF ?_ ?_; (focus (first | (simp [e, e2, e3]; done) | (simp [e, e2, e3]; omega) | (simp only [e, e2, e3]; simp; done))); (refine st rfl ?_; conv => arg 3; whnf))))
                refine n_sameP (.lit true) rfl rfl rfl (fun _ w1 hp1 hI1 => sound_ok s' ok' (hI1.blk_at hp1 0 rfl rfl rfl)) ?_; (refine st rfl ?_; conv => arg 3; whnf)
                (repeat (first | (refine n_must rfl ?_; (refine st rfl ?_; conv => arg 3; whnf)) | (refine n_chk (drawF_ok (by decide +kernel)) ?_; (refine st rfl ?_; conv => arg 3; whnf)) | (refine n_same rfl ?_; (refine st rfl ?_; conv => arg 3; whnf)) | (refine n_must ?_ ?_; (focus (first | (simp; done) | (simp; omega))); (refine st rfl ?_; conv => arg 3; whnf)) | (refine n_brT ?_ ?_; (focus (first | (simp; done) | (simp; omega))); (refine st rfl ?_; conv => arg 3; whnf)) | (refine n_brF ?_ ?_; (focus (first | (simp; done) | (simp; omega))); (refine st rfl ?_; conv => arg 3; whnf))))
                exact n_again ⟨(i + 1, s'), ⟨by dsimp only; omega, ok'⟩, by dsimp only; omega, (by (repeat (first | exact trivial | refine ⟨⟨rfl, rfl⟩, ?_⟩ | refine ⟨⟨rfl, congrArg (SV.int .i64) ei⟩, ?_⟩))), ⟨_, rfl⟩⟩
              · refine n_br (fun k10 => ?_) (fun k10 => ?_) <;> simp at k10 <;> (refine st rfl ?_; conv => arg 3; whnf)
                · have e : IntKind.i64.wrap (s.all + IntKind.i64.wrap (s'.lim - s.lim)) = s'.all := by
                    obtain ⟨q1, q2, q3, q4, q5, q6⟩ := ok
                    have := f3 k10
                    rw [f1, w64 (n := s'.lim - s.lim) (by omega) (by omega)]
                    unfold Led.diff
                    rw [if_neg k6, if_neg k7, if_pos k10, this, w64 (by omega) (by omega)]
                  (repeat (first | (refine n_must rfl ?_; (refine st rfl ?_; conv => arg 3; whnf)) | (refine n_chk (drawF_ok (by decide +kernel)) ?_; (refine st rfl ?_; conv => arg 3; whnf)) | (refine n_same rfl ?_; (refine st rfl ?_; conv => arg 3; whnf)) | (refine n_must ?_ ?_; (focus (first | (simp; done) | (simp; omega))); (refine st rfl ?_; conv => arg 3; whnf)) | (refine n_brT ?_ ?_; (focus (first | (simp; done) | (simp; omega))); (refine st rfl ?_; conv => arg 3; whnf)) | (refine n_brF ?_ ?_; (focus (first | (simp; done) | (simp; omega))); (refine st rfl ?_; conv => arg 3; whnf))))
                  refine n_sameP (.int .i64 s'.all) rfl rfl rfl (fun _ w1 hp1 hI1 => sum_ok s' ok' (hI1.blk_at hp1 0 rfl rfl rfl)) ?_; (refine st rfl ?_; conv => arg 3; whnf)
                  (repeat (first | (refine n_must rfl ?_; (refine st rfl ?_; conv => arg 3; whnf)) | (refine n_chk (drawF_ok (by decide +kernel)) ?_; (refine st rfl ?_; conv => arg 3; whnf)) | (refine n_same rfl ?_; (refine st rfl ?_; conv => arg 3; whnf)) | (refine n_must ?_ ?_; (focus (first | (simp [e, k10]; done) | (simp [e, k10]; omega) | (simp only [e, k10]; simp; done))); (refine st rfl ?_; conv => arg 3; whnf)) | (refine n_brT ?_ ?_; (focus (first | (simp [e, k10]; done) | (simp [e, k10]; omega) | (simp only [e, k10]; simp; done))); (refine st rfl ?_; conv => arg 3; whnf)) | (refine n_brF ?_ ?_; (focus (first | (simp [e, k10]; done) | (simp [e, k10]; omega) | (simp only [e, k10]; simp; done))); (refine st rfl ?_; conv => arg 3; whnf))))
                  refine n_sameP (.lit true) rfl rfl rfl (fun _ w1 hp1 hI1 => sound_ok s' ok' (hI1.blk_at hp1 0 rfl rfl rfl)) ?_; (refine st rfl ?_; conv => arg 3; whnf)
                  (repeat (first | (refine n_must rfl ?_; (refine st rfl ?_; conv => arg 3; whnf)) | (refine n_chk (drawF_ok (by decide +kernel)) ?_; (refine st rfl ?_; conv => arg 3; whnf)) | (refine n_same rfl ?_; (refine st rfl ?_; conv => arg 3; whnf)) | (refine n_must ?_ ?_; (focus (first | (simp; done) | (simp; omega))); (refine st rfl ?_; conv => arg 3; whnf)) | (refine n_brT ?_ ?_; (focus (first | (simp; done) | (simp; omega))); (refine st rfl ?_; conv => arg 3; whnf)) | (refine n_brF ?_ ?_; (focus (first | (simp; done) | (simp; omega))); (refine st rfl ?_; conv => arg 3; whnf))))
                  exact n_again ⟨(i + 1, s'), ⟨by dsimp only; omega, ok'⟩, by dsimp only; omega, (by (repeat (first | exact trivial | refine ⟨⟨rfl, rfl⟩, ?_⟩ | refine ⟨⟨rfl, congrArg (SV.int .i64) ei⟩, ?_⟩))), ⟨_, rfl⟩⟩
                · have e : IntKind.i64.wrap (s.all + 0) = s'.all := by
                    rw [f1, w64 (by omega) (by omega)]
                    unfold Led.diff
                    rw [if_neg k6, if_neg k7, if_neg k10]
                  obtain ⟨e2, e3⟩ := f2 k10
                  (repeat (first | (refine n_must rfl ?_; (refine st rfl ?_; conv => arg 3; whnf)) | (refine n_chk (drawF_ok (by decide +kernel)) ?_; (refine st rfl ?_; conv => arg 3; whnf)) | (refine n_same rfl ?_; (refine st rfl ?_; conv => arg 3; whnf)) | (refine n_must ?_ ?_; (focus (first | (simp; done) | (simp; omega))); (refine st rfl ?_; conv => arg 3; whnf)) | (refine n_brT ?_ ?_; (focus (first | (simp; done) | (simp; omega))); (refine st rfl ?_; conv => arg 3; whnf)) | (refine n_brF ?_ ?_; (focus (first | (simp; done) | (simp; omega))); (refine st rfl ?_; conv => arg 3; whnf))))
                  refine n_sameP (.int .i64 s'.all) rfl rfl rfl (fun _ w1 hp1 hI1 => sum_ok s' ok' (hI1.blk_at hp1 0 rfl rfl rfl)) ?_; (refine st rfl ?_; conv => arg 3; whnf)
                  (repeat (first | (refine n_must rfl ?_; (refine st rfl ?_; conv => arg 3; whnf)) | (refine n_chk (drawF_ok (by decide +kernel)) ?_; (refine st rfl ?_; conv => arg 3; whnf)) | (refine n_same rfl ?_; (refine st rfl ?_; conv => arg 3; whnf)) | (refine n_must ?_ ?_; (focus (first | (simp [e, e2, e3]; done) | (simp [e, e2, e3]; omega) | (simp only [e, e2, e3]; simp; done))); (refine st rfl ?_; conv => arg 3; whnf)) | (refine n_brT ?_ ?_; (focus (first | (simp [e, e2, e3]; done) | (simp [e, e2, e3]; omega) | (simp only [e, e2, e3]; simp; done))); (refine st rfl ?_; conv => arg 3; whnf)) | (refine n_brF ?_ ?_; (focus (first | (simp [e, e2, e3]; done) | (simp [e, e2, e3]; omega) | (simp only [e, e2, e3]; simp; done))); (refine st rfl ?_; conv => arg 3; whnf))))
                  refine n_sameP (.lit true) rfl rfl rfl (fun _ w1 hp1 hI1 => sound_ok s' ok' (hI1.blk_at hp1 0 rfl rfl rfl)) ?_; (refine st rfl ?_; conv => arg 3; whnf)
                  (repeat (first | (refine n_must rfl ?_; (refine st rfl ?_; conv => arg 3; whnf)) | (refine n_chk (drawF_ok (by decide +kernel)) ?_; (refine st rfl ?_; conv => arg 3; whnf)) | (refine n_same rfl ?_; (refine st rfl ?_; conv => arg 3; whnf)) | (refine n_must ?_ ?_; (focus (first | (simp; done) | (simp; omega))); (refine st rfl ?_; conv => arg 3; whnf)) | (refine n_brT ?_ ?_; (focus (first | (simp; done) | (simp; omega))); (refine st rfl ?_; conv => arg 3; whnf)) | (refine n_brF ?_ ?_; (focus (first | (simp; done) | (simp; omega))); (refine st rfl ?_; conv => arg 3; whnf))))
                  exact n_again ⟨(i + 1, s'), ⟨by dsimp only; omega, ok'⟩, by dsimp only; omega, (by (repeat (first | exact trivial | refine ⟨⟨rfl, rfl⟩, ?_⟩ | refine ⟨⟨rfl, congrArg (SV.int .i64) ei⟩, ?_⟩))), ⟨_, rfl⟩⟩
          | arg =>
            obtain rfl := does_err hd (by simp)
            refine n_updP 0 (.int .i64 1) (s'.sv) rfl rfl rfl rfl rfl rfl rfl (fun _ w1 hp1 hI1 => does_at (hs.frm hI1.frm hS hB) hb0 (Nat.le_trans hB hI1.frm.size) ok (hI1.blk_at hp1 0 rfl rfl rfl) k who a b hd) ?_; (refine st rfl ?_; conv => arg 3; whnf)
            (repeat (first | (refine n_must rfl ?_; (refine st rfl ?_; conv => arg 3; whnf)) | (refine n_chk (drawF_ok (by decide +kernel)) ?_; (refine st rfl ?_; conv => arg 3; whnf)) | (refine n_same rfl ?_; (refine st rfl ?_; conv => arg 3; whnf)) | (refine n_must ?_ ?_; (focus (first | (simp; done) | (simp; omega))); (refine st rfl ?_; conv => arg 3; whnf)) | (refine n_brT ?_ ?_; (focus (first | (simp; done) | (simp; omega))); (refine st rfl ?_; conv => arg 3; whnf)) | (refine n_brF ?_ ?_; (focus (first | (simp; done) | (simp; omega))); (refine st rfl ?_; conv => arg 3; whnf))))
            refine n_sameP (.tup [.int .i64 s'.lim, .int .i64 s'.n]) rfl rfl rfl (fun _ w1 hp1 hI1 => Cap_ok s' (hI1.blk_at hp1 0 rfl rfl rfl)) ?_; (refine st rfl ?_; conv => arg 3; whnf)
            (repeat (first | (refine n_must rfl ?_; (refine st rfl ?_; conv => arg 3; whnf)) | (refine n_chk (drawF_ok (by decide +kernel)) ?_; (refine st rfl ?_; conv => arg 3; whnf)) | (refine n_same rfl ?_; (refine st rfl ?_; conv => arg 3; whnf)) | (refine n_must ?_ ?_; (focus (first | (simp; done) | (simp; omega))); (refine st rfl ?_; conv => arg 3; whnf)) | (refine n_brT ?_ ?_; (focus (first | (simp; done) | (simp; omega))); (refine st rfl ?_; conv => arg 3; whnf)) | (refine n_brF ?_ ?_; (focus (first | (simp; done) | (simp; omega))); (refine st rfl ?_; conv => arg 3; whnf))))
            refine n_sameP (.agg [.int .i64 s'.d, .int .i64 s'.u]) rfl rfl rfl (fun _ w1 hp1 hI1 => Rights_ok s' (hI1.blk_at hp1 0 rfl rfl rfl)) ?_; (refine st rfl ?_; conv => arg 3; whnf)
            (repeat (first | (refine n_must rfl ?_; (refine st rfl ?_; conv => arg 3; whnf)) | (refine n_chk (drawF_ok (by decide +kernel)) ?_; (refine st rfl ?_; conv => arg 3; whnf)) | (refine n_same rfl ?_; (refine st rfl ?_; conv => arg 3; whnf)) | (refine n_must ?_ ?_; (focus (first | (simp; done) | (simp; omega))); (refine st rfl ?_; conv => arg 3; whnf)) | (refine n_brT ?_ ?_; (focus (first | (simp; done) | (simp; omega))); (refine st rfl ?_; conv => arg 3; whnf)) | (refine n_brF ?_ ?_; (focus (first | (simp; done) | (simp; omega))); (refine st rfl ?_; conv => arg 3; whnf))))
            refine n_sameP (.lit true) rfl rfl rfl (fun _ w1 hp1 hI1 => same_refl s'.d s'.u w1) ?_; (refine st rfl ?_; conv => arg 3; whnf)
            (repeat (first | (refine n_must rfl ?_; (refine st rfl ?_; conv => arg 3; whnf)) | (refine n_chk (drawF_ok (by decide +kernel)) ?_; (refine st rfl ?_; conv => arg 3; whnf)) | (refine n_same rfl ?_; (refine st rfl ?_; conv => arg 3; whnf)) | (refine n_must ?_ ?_; (focus (first | (simp; done) | (simp; omega))); (refine st rfl ?_; conv => arg 3; whnf)) | (refine n_brT ?_ ?_; (focus (first | (simp; done) | (simp; omega))); (refine st rfl ?_; conv => arg 3; whnf)) | (refine n_brF ?_ ?_; (focus (first | (simp; done) | (simp; omega))); (refine st rfl ?_; conv => arg 3; whnf))))
            refine n_sameP (.int .i64 s'.h) rfl rfl rfl (fun _ w1 hp1 hI1 => Held_ok s' (hI1.blk_at hp1 0 rfl rfl rfl)) ?_; (refine st rfl ?_; conv => arg 3; whnf)
            (repeat (first | (refine n_must rfl ?_; (refine st rfl ?_; conv => arg 3; whnf)) | (refine n_chk (drawF_ok (by decide +kernel)) ?_; (refine st rfl ?_; conv => arg 3; whnf)) | (refine n_same rfl ?_; (refine st rfl ?_; conv => arg 3; whnf)) | (refine n_must ?_ ?_; (focus (first | (simp; done) | (simp; omega))); (refine st rfl ?_; conv => arg 3; whnf)) | (refine n_brT ?_ ?_; (focus (first | (simp; done) | (simp; omega))); (refine st rfl ?_; conv => arg 3; whnf)) | (refine n_brF ?_ ?_; (focus (first | (simp; done) | (simp; omega))); (refine st rfl ?_; conv => arg 3; whnf))))
            exact n_again ⟨(i + 1, s'), ⟨by dsimp only; omega, ok'⟩, by dsimp only; omega, (by (repeat (first | exact trivial | refine ⟨⟨rfl, rfl⟩, ?_⟩ | refine ⟨⟨rfl, congrArg (SV.int .i64) ei⟩, ?_⟩))), ⟨_, rfl⟩⟩
          | rights =>
            obtain rfl := does_err hd (by simp)
            refine n_updP 0 (.int .i64 60) (s'.sv) rfl rfl rfl rfl rfl rfl rfl (fun _ w1 hp1 hI1 => does_at (hs.frm hI1.frm hS hB) hb0 (Nat.le_trans hB hI1.frm.size) ok (hI1.blk_at hp1 0 rfl rfl rfl) k who a b hd) ?_; (refine st rfl ?_; conv => arg 3; whnf)
            (repeat (first | (refine n_must rfl ?_; (refine st rfl ?_; conv => arg 3; whnf)) | (refine n_chk (drawF_ok (by decide +kernel)) ?_; (refine st rfl ?_; conv => arg 3; whnf)) | (refine n_same rfl ?_; (refine st rfl ?_; conv => arg 3; whnf)) | (refine n_must ?_ ?_; (focus (first | (simp; done) | (simp; omega))); (refine st rfl ?_; conv => arg 3; whnf)) | (refine n_brT ?_ ?_; (focus (first | (simp; done) | (simp; omega))); (refine st rfl ?_; conv => arg 3; whnf)) | (refine n_brF ?_ ?_; (focus (first | (simp; done) | (simp; omega))); (refine st rfl ?_; conv => arg 3; whnf))))
            refine n_sameP (.tup [.int .i64 s'.lim, .int .i64 s'.n]) rfl rfl rfl (fun _ w1 hp1 hI1 => Cap_ok s' (hI1.blk_at hp1 0 rfl rfl rfl)) ?_; (refine st rfl ?_; conv => arg 3; whnf)
            (repeat (first | (refine n_must rfl ?_; (refine st rfl ?_; conv => arg 3; whnf)) | (refine n_chk (drawF_ok (by decide +kernel)) ?_; (refine st rfl ?_; conv => arg 3; whnf)) | (refine n_same rfl ?_; (refine st rfl ?_; conv => arg 3; whnf)) | (refine n_must ?_ ?_; (focus (first | (simp; done) | (simp; omega))); (refine st rfl ?_; conv => arg 3; whnf)) | (refine n_brT ?_ ?_; (focus (first | (simp; done) | (simp; omega))); (refine st rfl ?_; conv => arg 3; whnf)) | (refine n_brF ?_ ?_; (focus (first | (simp; done) | (simp; omega))); (refine st rfl ?_; conv => arg 3; whnf))))
            refine n_sameP (.agg [.int .i64 s'.d, .int .i64 s'.u]) rfl rfl rfl (fun _ w1 hp1 hI1 => Rights_ok s' (hI1.blk_at hp1 0 rfl rfl rfl)) ?_; (refine st rfl ?_; conv => arg 3; whnf)
            (repeat (first | (refine n_must rfl ?_; (refine st rfl ?_; conv => arg 3; whnf)) | (refine n_chk (drawF_ok (by decide +kernel)) ?_; (refine st rfl ?_; conv => arg 3; whnf)) | (refine n_same rfl ?_; (refine st rfl ?_; conv => arg 3; whnf)) | (refine n_must ?_ ?_; (focus (first | (simp; done) | (simp; omega))); (refine st rfl ?_; conv => arg 3; whnf)) | (refine n_brT ?_ ?_; (focus (first | (simp; done) | (simp; omega))); (refine st rfl ?_; conv => arg 3; whnf)) | (refine n_brF ?_ ?_; (focus (first | (simp; done) | (simp; omega))); (refine st rfl ?_; conv => arg 3; whnf))))
            refine n_sameP (.lit true) rfl rfl rfl (fun _ w1 hp1 hI1 => same_refl s'.d s'.u w1) ?_; (refine st rfl ?_; conv => arg 3; whnf)
            (repeat (first | (refine n_must rfl ?_; (refine st rfl ?_; conv => arg 3; whnf)) | (refine n_chk (drawF_ok (by decide +kernel)) ?_; (refine st rfl ?_; conv => arg 3; whnf)) | (refine n_same rfl ?_; (refine st rfl ?_; conv => arg 3; whnf)) | (refine n_must ?_ ?_; (focus (first | (simp; done) | (simp; omega))); (refine st rfl ?_; conv => arg 3; whnf)) | (refine n_brT ?_ ?_; (focus (first | (simp; done) | (simp; omega))); (refine st rfl ?_; conv => arg 3; whnf)) | (refine n_brF ?_ ?_; (focus (first | (simp; done) | (simp; omega))); (refine st rfl ?_; conv => arg 3; whnf))))
            refine n_sameP (.int .i64 s'.h) rfl rfl rfl (fun _ w1 hp1 hI1 => Held_ok s' (hI1.blk_at hp1 0 rfl rfl rfl)) ?_; (refine st rfl ?_; conv => arg 3; whnf)
            (repeat (first | (refine n_must rfl ?_; (refine st rfl ?_; conv => arg 3; whnf)) | (refine n_chk (drawF_ok (by decide +kernel)) ?_; (refine st rfl ?_; conv => arg 3; whnf)) | (refine n_same rfl ?_; (refine st rfl ?_; conv => arg 3; whnf)) | (refine n_must ?_ ?_; (focus (first | (simp; done) | (simp; omega))); (refine st rfl ?_; conv => arg 3; whnf)) | (refine n_brT ?_ ?_; (focus (first | (simp; done) | (simp; omega))); (refine st rfl ?_; conv => arg 3; whnf)) | (refine n_brF ?_ ?_; (focus (first | (simp; done) | (simp; omega))); (refine st rfl ?_; conv => arg 3; whnf))))
            exact n_again ⟨(i + 1, s'), ⟨by dsimp only; omega, ok'⟩, by dsimp only; omega, (by (repeat (first | exact trivial | refine ⟨⟨rfl, rfl⟩, ?_⟩ | refine ⟨⟨rfl, congrArg (SV.int .i64) ei⟩, ?_⟩))), ⟨_, rfl⟩⟩
          | cap =>
            obtain rfl := does_err hd (by simp)
            refine n_updP 0 (.int .i64 61) (s'.sv) rfl rfl rfl rfl rfl rfl rfl (fun _ w1 hp1 hI1 => does_at (hs.frm hI1.frm hS hB) hb0 (Nat.le_trans hB hI1.frm.size) ok (hI1.blk_at hp1 0 rfl rfl rfl) k who a b hd) ?_; (refine st rfl ?_; conv => arg 3; whnf)
            (repeat (first | (refine n_must rfl ?_; (refine st rfl ?_; conv => arg 3; whnf)) | (refine n_chk (drawF_ok (by decide +kernel)) ?_; (refine st rfl ?_; conv => arg 3; whnf)) | (refine n_same rfl ?_; (refine st rfl ?_; conv => arg 3; whnf)) | (refine n_must ?_ ?_; (focus (first | (simp; done) | (simp; omega))); (refine st rfl ?_; conv => arg 3; whnf)) | (refine n_brT ?_ ?_; (focus (first | (simp; done) | (simp; omega))); (refine st rfl ?_; conv => arg 3; whnf)) | (refine n_brF ?_ ?_; (focus (first | (simp; done) | (simp; omega))); (refine st rfl ?_; conv => arg 3; whnf))))
            refine n_sameP (.tup [.int .i64 s'.lim, .int .i64 s'.n]) rfl rfl rfl (fun _ w1 hp1 hI1 => Cap_ok s' (hI1.blk_at hp1 0 rfl rfl rfl)) ?_; (refine st rfl ?_; conv => arg 3; whnf)
            (repeat (first | (refine n_must rfl ?_; (refine st rfl ?_; conv => arg 3; whnf)) | (refine n_chk (drawF_ok (by decide +kernel)) ?_; (refine st rfl ?_; conv => arg 3; whnf)) | (refine n_same rfl ?_; (refine st rfl ?_; conv => arg 3; whnf)) | (refine n_must ?_ ?_; (focus (first | (simp; done) | (simp; omega))); (refine st rfl ?_; conv => arg 3; whnf)) | (refine n_brT ?_ ?_; (focus (first | (simp; done) | (simp; omega))); (refine st rfl ?_; conv => arg 3; whnf)) | (refine n_brF ?_ ?_; (focus (first | (simp; done) | (simp; omega))); (refine st rfl ?_; conv => arg 3; whnf))))
            refine n_sameP (.agg [.int .i64 s'.d, .int .i64 s'.u]) rfl rfl rfl (fun _ w1 hp1 hI1 => Rights_ok s' (hI1.blk_at hp1 0 rfl rfl rfl)) ?_; (refine st rfl ?_; conv => arg 3; whnf)
            (repeat (first | (refine n_must rfl ?_; (refine st rfl ?_; conv => arg 3; whnf)) | (refine n_chk (drawF_ok (by decide +kernel)) ?_; (refine st rfl ?_; conv => arg 3; whnf)) | (refine n_same rfl ?_; (refine st rfl ?_; conv => arg 3; whnf)) | (refine n_must ?_ ?_; (focus (first | (simp; done) | (simp; omega))); (refine st rfl ?_; conv => arg 3; whnf)) | (refine n_brT ?_ ?_; (focus (first | (simp; done) | (simp; omega))); (refine st rfl ?_; conv => arg 3; whnf)) | (refine n_brF ?_ ?_; (focus (first | (simp; done) | (simp; omega))); (refine st rfl ?_; conv => arg 3; whnf))))
            refine n_sameP (.lit true) rfl rfl rfl (fun _ w1 hp1 hI1 => same_refl s'.d s'.u w1) ?_; (refine st rfl ?_; conv => arg 3; whnf)
            (repeat (first | (refine n_must rfl ?_; (refine st rfl ?_; conv => arg 3; whnf)) | (refine n_chk (drawF_ok (by decide +kernel)) ?_; (refine st rfl ?_; conv => arg 3; whnf)) | (refine n_same rfl ?_; (refine st rfl ?_; conv => arg 3; whnf)) | (refine n_must ?_ ?_; (focus (first | (simp; done) | (simp; omega))); (refine st rfl ?_; conv => arg 3; whnf)) | (refine n_brT ?_ ?_; (focus (first | (simp; done) | (simp; omega))); (refine st rfl ?_; conv => arg 3; whnf)) | (refine n_brF ?_ ?_; (focus (first | (simp; done) | (simp; omega))); (refine st rfl ?_; conv => arg 3; whnf))))
            refine n_sameP (.int .i64 s'.h) rfl rfl rfl (fun _ w1 hp1 hI1 => Held_ok s' (hI1.blk_at hp1 0 rfl rfl rfl)) ?_; (refine st rfl ?_; conv => arg 3; whnf)
            (repeat (first | (refine n_must rfl ?_; (refine st rfl ?_; conv => arg 3; whnf)) | (refine n_chk (drawF_ok (by decide +kernel)) ?_; (refine st rfl ?_; conv => arg 3; whnf)) | (refine n_same rfl ?_; (refine st rfl ?_; conv => arg 3; whnf)) | (refine n_must ?_ ?_; (focus (first | (simp; done) | (simp; omega))); (refine st rfl ?_; conv => arg 3; whnf)) | (refine n_brT ?_ ?_; (focus (first | (simp; done) | (simp; omega))); (refine st rfl ?_; conv => arg 3; whnf)) | (refine n_brF ?_ ?_; (focus (first | (simp; done) | (simp; omega))); (refine st rfl ?_; conv => arg 3; whnf))))
            exact n_again ⟨(i + 1, s'), ⟨by dsimp only; omega, ok'⟩, by dsimp only; omega, (by (repeat (first | exact trivial | refine ⟨⟨rfl, rfl⟩, ?_⟩ | refine ⟨⟨rfl, congrArg (SV.int .i64) ei⟩, ?_⟩))), ⟨_, rfl⟩⟩
        · have ok' := ok
          (repeat' (first | (refine n_must rfl ?_; (refine st rfl ?_; conv => arg 3; whnf)) | (refine n_chk (drawF_ok (by decide +kernel)) ?_; (refine st rfl ?_; conv => arg 3; whnf)) | (refine n_same rfl ?_; (refine st rfl ?_; conv => arg 3; whnf)) | (refine n_must ?_ ?_; (focus (first | (simp; done) | (simp; omega))); (refine st rfl ?_; conv => arg 3; whnf)) | (refine n_brT ?_ ?_; (focus (first | (simp; done) | (simp; omega))); (refine st rfl ?_; conv => arg 3; whnf)) | (refine n_brF ?_ ?_; (focus (first | (simp; done) | (simp; omega))); (refine st rfl ?_; conv => arg 3; whnf)) | (refine n_br (fun hbr => ?_) (fun hbr => ?_) <;> simp at hbr <;> (refine st rfl ?_; conv => arg 3; whnf))))
          all_goals
            refine n_sameP (.lit true) rfl rfl rfl (fun _ w1 hp1 hI1 => sound_ok s ok (hI1.blk_at hp1 0 rfl rfl rfl)) ?_; (refine st rfl ?_; conv => arg 3; whnf)
            (repeat (first | (refine n_must rfl ?_; (refine st rfl ?_; conv => arg 3; whnf)) | (refine n_chk (drawF_ok (by decide +kernel)) ?_; (refine st rfl ?_; conv => arg 3; whnf)) | (refine n_same rfl ?_; (refine st rfl ?_; conv => arg 3; whnf)) | (refine n_must ?_ ?_; (focus (first | (simp; done) | (simp; omega))); (refine st rfl ?_; conv => arg 3; whnf)) | (refine n_brT ?_ ?_; (focus (first | (simp; done) | (simp; omega))); (refine st rfl ?_; conv => arg 3; whnf)) | (refine n_brF ?_ ?_; (focus (first | (simp; done) | (simp; omega))); (refine st rfl ?_; conv => arg 3; whnf))))
            exact n_again ⟨(i + 1, s), ⟨by dsimp only; omega, ok'⟩, by dsimp only; omega, (by (repeat (first | exact trivial | refine ⟨⟨rfl, rfl⟩, ?_⟩ | refine ⟨⟨rfl, congrArg (SV.int .i64) ei⟩, ?_⟩))), ⟨_, rfl⟩⟩
  · (repeat' (first | (refine n_must rfl ?_; (refine st rfl ?_; conv => arg 3; whnf)) | (refine n_chk (drawF_ok (by decide +kernel)) ?_; (refine st rfl ?_; conv => arg 3; whnf)) | (refine n_same rfl ?_; (refine st rfl ?_; conv => arg 3; whnf)) | (refine n_must ?_ ?_; (focus (first | (simp; done) | (simp; omega))); (refine st rfl ?_; conv => arg 3; whnf)) | (refine n_brT ?_ ?_; (focus (first | (simp; done) | (simp; omega))); (refine st rfl ?_; conv => arg 3; whnf)) | (refine n_brF ?_ ?_; (focus (first | (simp; done) | (simp; omega))); (refine st rfl ?_; conv => arg 3; whnf)) | (refine n_br (fun hbr => ?_) (fun hbr => ?_) <;> simp at hbr <;> (refine st rfl ?_; conv => arg 3; whnf))))
    all_goals
      refine n_exit rfl ?_
      (refine st rfl ?_; conv => arg 3; whnf)
      (repeat (first | (refine n_must rfl ?_; (refine st rfl ?_; conv => arg 3; whnf)) | (refine n_chk (drawF_ok (by decide +kernel)) ?_; (refine st rfl ?_; conv => arg 3; whnf)) | (refine n_same rfl ?_; (refine st rfl ?_; conv => arg 3; whnf)) | (refine n_brT ?_ ?_; (focus (simp <;> fail)); (refine st rfl ?_; conv => arg 3; whnf)) | (refine n_brF ?_ ?_; (focus (simp <;> fail)); (refine st rfl ?_; conv => arg 3; whnf))))
      exact n_ret0 rfl rfl fun ids' w' hp hI' => ⟨rfl, hI'.frm⟩
end Go.Proofs.YthinmbcedgoglaaDoor
