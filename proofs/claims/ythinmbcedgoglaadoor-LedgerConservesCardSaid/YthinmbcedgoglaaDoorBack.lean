/- The law of turning back. -/
import Derived.Test.YthinmbcedgoglaaDoorLaw
set_option maxRecDepth 100000
set_option maxHeartbeats 2000000
set_option linter.unusedSimpArgs false
set_option linter.unusedVariables false
namespace Go.Proofs.YthinmbcedgoglaaDoor
open Go.RowKit

theorem In_at {b0 b : Nat} {w : World} {a0 a1 a2 : Addr} (hs : Sents b0 w a0 a1 a2) (hb0 : b0 ≤ b) (hB : b0 ≤ w.heap.size) {s s' : Led} {r : LErr} (x y : Int) (ok : s.ok) (he : s.in_ x y = (s', r)) (hb : Blk w b s.cells 62) :
    Calls Tryd.prog 13 #[.pointer (some ⟨b, 0, none⟩), .agg #[.int .i64 x, .int .i64 y]] w fun e w' => e = .returned (.int .i64 r.num) ∧ Frm [b] w w' ∧ Blk w' b s'.cells 62 := by
  have h := In_ok hs hb0 hB s ok hb x y
  rw [he] at h
  exact h
theorem Out_at {b0 b : Nat} {w : World} {a0 a1 a2 : Addr} (hs : Sents b0 w a0 a1 a2) (hb0 : b0 ≤ b) (hB : b0 ≤ w.heap.size) {s s' : Led} {r : LErr} (x y : Int) (ok : s.ok) (he : s.out x y = (s', r)) (hb : Blk w b s.cells 62) :
    Calls Tryd.prog 23 #[.pointer (some ⟨b, 0, none⟩), .agg #[.int .i64 x, .int .i64 y]] w fun e w' => e = .returned (.int .i64 r.num) ∧ Frm [b] w w' ∧ Blk w' b s'.cells 62 := by
  have h := Out_ok hs hb0 hB s ok hb x y
  rw [he] at h
  exact h
theorem Dec_at {b0 b : Nat} {w : World} {a0 a1 a2 : Addr} (hs : Sents b0 w a0 a1 a2) (hb0 : b0 ≤ b) (hB : b0 ≤ w.heap.size) {s s' : Led} {r : LErr} (x : Int) (ok : s.ok) (he : s.turn 0 1 x = (s', r)) (hb : Blk w b s.cells 62) :
    Calls Tryd.prog 14 #[.pointer (some ⟨b, 0, none⟩), .int .i64 x] w fun e w' => e = .returned (.int .i64 r.num) ∧ Frm [b] w w' ∧ Blk w' b s'.cells 62 := by
  have h := Dec_ok hs hb0 hB s ok hb x
  rw [he] at h
  exact h
theorem Inc_at {b0 b : Nat} {w : World} {a0 a1 a2 : Addr} (hs : Sents b0 w a0 a1 a2) (hb0 : b0 ≤ b) (hB : b0 ≤ w.heap.size) {s s' : Led} {r : LErr} (x : Int) (ok : s.ok) (he : s.turn 1 0 x = (s', r)) (hb : Blk w b s.cells 62) :
    Calls Tryd.prog 15 #[.pointer (some ⟨b, 0, none⟩), .int .i64 x] w fun e w' => e = .returned (.int .i64 r.num) ∧ Frm [b] w w' ∧ Blk w' b s'.cells 62 := by
  have h := Inc_ok hs hb0 hB s ok hb x
  rw [he] at h
  exact h
theorem Lock_at {b0 b : Nat} {w : World} {a0 a1 a2 : Addr} (hs : Sents b0 w a0 a1 a2) (hb0 : b0 ≤ b) (hB : b0 ≤ w.heap.size) {s s' : Led} {r : LErr} (x : Int) (ok : s.ok) (he : s.turn 0 2 x = (s', r)) (hb : Blk w b s.cells 62) :
    Calls Tryd.prog 18 #[.pointer (some ⟨b, 0, none⟩), .int .i64 x] w fun e w' => e = .returned (.int .i64 r.num) ∧ Frm [b] w w' ∧ Blk w' b s'.cells 62 := by
  have h := Lock_ok hs hb0 hB s ok hb x
  rw [he] at h
  exact h
theorem Free_at {b0 b : Nat} {w : World} {a0 a1 a2 : Addr} (hs : Sents b0 w a0 a1 a2) (hb0 : b0 ≤ b) (hB : b0 ≤ w.heap.size) {s s' : Led} {r : LErr} (x : Int) (ok : s.ok) (he : s.turn 2 0 x = (s', r)) (hb : Blk w b s.cells 62) :
    Calls Tryd.prog 20 #[.pointer (some ⟨b, 0, none⟩), .int .i64 x] w fun e w' => e = .returned (.int .i64 r.num) ∧ Frm [b] w w' ∧ Blk w' b s'.cells 62 := by
  have h := Free_ok hs hb0 hB s ok hb x
  rw [he] at h
  exact h
theorem Burn_at {b0 b : Nat} {w : World} {a0 a1 a2 : Addr} (hs : Sents b0 w a0 a1 a2) (hb0 : b0 ≤ b) (hB : b0 ≤ w.heap.size) {s s' : Led} {r : LErr} (x : Int) (ok : s.ok) (he : s.turn 2 1 x = (s', r)) (hb : Blk w b s.cells 62) :
    Calls Tryd.prog 21 #[.pointer (some ⟨b, 0, none⟩), .int .i64 x] w fun e w' => e = .returned (.int .i64 r.num) ∧ Frm [b] w w' ∧ Blk w' b s'.cells 62 := by
  have h := Burn_ok hs hb0 hB s ok hb x
  rw [he] at h
  exact h
theorem Set_at {b0 b : Nat} {w : World} {a0 a1 a2 : Addr} (hs : Sents b0 w a0 a1 a2) (hb0 : b0 ≤ b) (hB : b0 ≤ w.heap.size) {s s' : Led} {r : LErr} (x : Int) (ok : s.ok) (he : s.setD x = (s', r)) (hb : Blk w b s.cells 62) :
    Calls Tryd.prog 39 #[.pointer (some ⟨b, 0, none⟩), .int .i64 x] w fun e w' => e = .returned (.int .i64 r.num) ∧ Frm [b] w w' ∧ Blk w' b s'.cells 62 := by
  have h := Set_ok hs hb0 hB s ok hb x
  rw [he] at h
  exact h
theorem Recap_at {b0 b : Nat} {w : World} {a0 a1 a2 : Addr} (hs : Sents b0 w a0 a1 a2) (hb0 : b0 ≤ b) (hB : b0 ≤ w.heap.size) {s s' : Led} {r : LErr} (x y : Int) (ok : s.ok) (he : s.recap x y = (s', r)) (hb : Blk w b s.cells 62) :
    Calls Tryd.prog 40 #[.pointer (some ⟨b, 0, none⟩), .int .i64 x, .int .i64 y] w fun e w' => e = .returned (.int .i64 r.num) ∧ Frm [b] w w' ∧ Blk w' b s'.cells 62 := by
  have h := Recap_ok hs hb0 hB s ok hb x y
  rw [he] at h
  exact h

theorem alive_ok {b0 : Nat} {w : World} {a0 a1 a2 : Addr} (hs : Sents b0 w a0 a1 a2) (hB : b0 ≤ w.heap.size) : Calls Tryd.prog 10 #[] w fun e w' => e = .returned (.bool true) ∧ Frm [] w w' := by
  have hI := Inv.nil (P := Tryd.prog) (N := 69) (S := []) (os := []) w
  refine calls_sm (cx 69 [] [] w) (vals := []) mixed Tryd.func10 rfl rfl rfl hI rfl (st rfl ?_); conv => arg 3; whnf
  refine n_call0 rfl rfl rfl fun w1 hI1 => (made_1 10 rfl w1).mono ?_
  rintro e w2 ⟨p, b1, b2, hb1, hb2, hp, rfl, hf, hP⟩
  have hw := hI1.frm.size
  dsimp only at hw
  have hJ3 := hI1.adds hf [b1, b2, p] (pairAt 0 (Led.mk 0 0 0 10 0)) rfl (by simp [hP.n12, hP.n1p, hP.n2p]) (by simp; omega) (pair_blk [] rfl hP)
  refine ⟨.tup [.ptr 2 0, .lit true], _, _, _, rfl, rfl, by simp, hJ3, ?_⟩
  (refine st rfl ?_; conv => arg 3; whnf)
  have k0 : (Led.mk 0 0 0 10 0).ok := Led.new_ok rfl
  have k1 : (Led.mk 6 3 0 10 0).ok := ⟨by decide, by decide, by decide, by decide, by decide, by decide⟩
  have k2 : (Led.mk 4 5 0 10 0).ok := ⟨by decide, by decide, by decide, by decide, by decide, by decide⟩
  have k3 : (Led.mk 1 5 3 10 0).ok := ⟨by decide, by decide, by decide, by decide, by decide, by decide⟩
  have hb0 : b0 ≤ b1 := by omega
  (repeat (first | (refine n_must rfl ?_; (refine st rfl ?_; conv => arg 3; whnf)) | (refine n_chk (drawF_ok (by decide +kernel)) ?_; (refine st rfl ?_; conv => arg 3; whnf)) | (refine n_same rfl ?_; (refine st rfl ?_; conv => arg 3; whnf)) | (refine n_brT ?_ ?_; (focus (simp <;> fail)); (refine st rfl ?_; conv => arg 3; whnf)) | (refine n_brF ?_ ?_; (focus (simp <;> fail)); (refine st rfl ?_; conv => arg 3; whnf))))
  refine n_updP 0 (.int .i64 0) (Led.mk 6 3 0 10 0).sv rfl rfl rfl rfl rfl rfl rfl (fun _ w1 hp hI1 => In_at (r := .ok) (hs.frm hI1.frm (by simp) hB) hb0 (Nat.le_trans hB hI1.frm.size) 6 3 k0 rfl (hI1.blk_at hp 0 rfl rfl rfl)) ?_
  (refine st rfl ?_; conv => arg 3; whnf)
  (repeat (first | (refine n_must rfl ?_; (refine st rfl ?_; conv => arg 3; whnf)) | (refine n_chk (drawF_ok (by decide +kernel)) ?_; (refine st rfl ?_; conv => arg 3; whnf)) | (refine n_same rfl ?_; (refine st rfl ?_; conv => arg 3; whnf)) | (refine n_brT ?_ ?_; (focus (simp <;> fail)); (refine st rfl ?_; conv => arg 3; whnf)) | (refine n_brF ?_ ?_; (focus (simp <;> fail)); (refine st rfl ?_; conv => arg 3; whnf))))
  refine n_updP 0 (.int .i64 0) (Led.mk 4 5 0 10 0).sv rfl rfl rfl rfl rfl rfl rfl (fun _ w1 hp hI1 => Dec_at (r := .ok) (hs.frm hI1.frm (by simp) hB) hb0 (Nat.le_trans hB hI1.frm.size) 2 k1 rfl (hI1.blk_at hp 0 rfl rfl rfl)) ?_
  (refine st rfl ?_; conv => arg 3; whnf)
  (repeat (first | (refine n_must rfl ?_; (refine st rfl ?_; conv => arg 3; whnf)) | (refine n_chk (drawF_ok (by decide +kernel)) ?_; (refine st rfl ?_; conv => arg 3; whnf)) | (refine n_same rfl ?_; (refine st rfl ?_; conv => arg 3; whnf)) | (refine n_brT ?_ ?_; (focus (simp <;> fail)); (refine st rfl ?_; conv => arg 3; whnf)) | (refine n_brF ?_ ?_; (focus (simp <;> fail)); (refine st rfl ?_; conv => arg 3; whnf))))
  refine n_updP 0 (.int .i64 0) (Led.mk 1 5 3 10 0).sv rfl rfl rfl rfl rfl rfl rfl (fun _ w1 hp hI1 => Lock_at (r := .ok) (hs.frm hI1.frm (by simp) hB) hb0 (Nat.le_trans hB hI1.frm.size) 3 k2 rfl (hI1.blk_at hp 0 rfl rfl rfl)) ?_
  (refine st rfl ?_; conv => arg 3; whnf)
  (repeat (first | (refine n_must rfl ?_; (refine st rfl ?_; conv => arg 3; whnf)) | (refine n_chk (drawF_ok (by decide +kernel)) ?_; (refine st rfl ?_; conv => arg 3; whnf)) | (refine n_same rfl ?_; (refine st rfl ?_; conv => arg 3; whnf)) | (refine n_brT ?_ ?_; (focus (simp <;> fail)); (refine st rfl ?_; conv => arg 3; whnf)) | (refine n_brF ?_ ?_; (focus (simp <;> fail)); (refine st rfl ?_; conv => arg 3; whnf))))
  refine n_updP 0 (.int .i64 60) (Led.mk 1 5 3 10 0).sv rfl rfl rfl rfl rfl rfl rfl (fun _ w1 hp hI1 => Dec_at (r := .rights) (hs.frm hI1.frm (by simp) hB) hb0 (Nat.le_trans hB hI1.frm.size) 2 k3 rfl (hI1.blk_at hp 0 rfl rfl rfl)) ?_
  (refine st rfl ?_; conv => arg 3; whnf)
  (repeat (first | (refine n_must rfl ?_; (refine st rfl ?_; conv => arg 3; whnf)) | (refine n_chk (drawF_ok (by decide +kernel)) ?_; (refine st rfl ?_; conv => arg 3; whnf)) | (refine n_same rfl ?_; (refine st rfl ?_; conv => arg 3; whnf)) | (refine n_brT ?_ ?_; (focus (simp <;> fail)); (refine st rfl ?_; conv => arg 3; whnf)) | (refine n_brF ?_ ?_; (focus (simp <;> fail)); (refine st rfl ?_; conv => arg 3; whnf))))
  refine n_sameP (.agg [.int .i64 1, .int .i64 5]) rfl rfl rfl (fun _ w1 hp hI1 => Rights_ok (Led.mk 1 5 3 10 0) (hI1.blk_at hp 0 rfl rfl rfl)) ?_
  (refine st rfl ?_; conv => arg 3; whnf)
  (repeat (first | (refine n_must rfl ?_; (refine st rfl ?_; conv => arg 3; whnf)) | (refine n_chk (drawF_ok (by decide +kernel)) ?_; (refine st rfl ?_; conv => arg 3; whnf)) | (refine n_same rfl ?_; (refine st rfl ?_; conv => arg 3; whnf)) | (refine n_brT ?_ ?_; (focus (simp <;> fail)); (refine st rfl ?_; conv => arg 3; whnf)) | (refine n_brF ?_ ?_; (focus (simp <;> fail)); (refine st rfl ?_; conv => arg 3; whnf))))
  refine n_sameP (.lit true) rfl rfl rfl (fun _ w1 hp hI1 => same_ok 1 5 1 5 w1) ?_
  (refine st rfl ?_; conv => arg 3; whnf)
  (repeat (first | (refine n_must rfl ?_; (refine st rfl ?_; conv => arg 3; whnf)) | (refine n_chk (drawF_ok (by decide +kernel)) ?_; (refine st rfl ?_; conv => arg 3; whnf)) | (refine n_same rfl ?_; (refine st rfl ?_; conv => arg 3; whnf)) | (refine n_brT ?_ ?_; (focus (simp <;> fail)); (refine st rfl ?_; conv => arg 3; whnf)) | (refine n_brF ?_ ?_; (focus (simp <;> fail)); (refine st rfl ?_; conv => arg 3; whnf))))
  refine n_sameP (.int .i64 3) rfl rfl rfl (fun _ w1 hp hI1 => Held_ok (Led.mk 1 5 3 10 0) (hI1.blk_at hp 0 rfl rfl rfl)) ?_
  (refine st rfl ?_; conv => arg 3; whnf)
  (repeat (first | (refine n_must rfl ?_; (refine st rfl ?_; conv => arg 3; whnf)) | (refine n_chk (drawF_ok (by decide +kernel)) ?_; (refine st rfl ?_; conv => arg 3; whnf)) | (refine n_same rfl ?_; (refine st rfl ?_; conv => arg 3; whnf)) | (refine n_brT ?_ ?_; (focus (simp <;> fail)); (refine st rfl ?_; conv => arg 3; whnf)) | (refine n_brF ?_ ?_; (focus (simp <;> fail)); (refine st rfl ?_; conv => arg 3; whnf))))
  exact n_ret0 rfl rfl fun ids' w' hp hI' => ⟨rfl, hI'.frm⟩

theorem same_refl (x y : Int) (w : World) : Calls Tryd.prog 16 #[.agg #[.int .i64 x, .int .i64 y], .agg #[.int .i64 x, .int .i64 y]] w fun e w' => e = .returned (.bool true) ∧ Frm [] w w' := by
  have h := same_ok x y x y w
  simp only [and_self, decide_true] at h
  exact h

abbrev i64 (x : Int) : Prop := -9223372036854775808 ≤ x ∧ x ≤ 9223372036854775807

theorem LedgerBack_ok {b0 : Nat} {w : World} {a0 a1 a2 : Addr} (hs : Sents b0 w a0 a1 a2) (hB : b0 ≤ w.heap.size) (x y z k : Int) (hx : i64 x) (hy : i64 y) (hz : i64 z) (hk : i64 k) :
    Calls Tryd.prog 3 #[.int .i64 x, .int .i64 y, .int .i64 z, .int .i64 k] w fun e w' => e = .returned (.bool true) ∧ Frm [] w w' := by
  have hI := Inv.nil (P := Tryd.prog) (N := 169) (S := []) (os := [(18, [(0, []), (1, []), (2, []), (3, []), (5, []), (4, [5]), (6, []), (7, []), (8, [])]), (24, [(0, []), (2, []), (1, [2]), (3, []), (4, []), (5, []), (6, []), (7, []), (8, []), (9, [])]), (25, [(0, []), (2, []), (1, []), (3, []), (4, []), (5, []), (6, []), (7, []), (8, []), (9, []), (10, []), (11, []), (13, []), (12, [13]), (14, []), (15, []), (16, []), (17, []), (18, []), (19, []), (20, []), (21, [])])]) w
  generalize hL : withinF x 1 1099511627776 = L
  have bL : 1 ≤ L ∧ L ≤ 1099511627776 := hL ▸ within_le (by omega)
  generalize hD : withinF y 0 L = D
  have bD : 0 ≤ D ∧ D ≤ L := hD ▸ within_le (by omega)
  generalize hU : withinF z 0 (L - D) = U
  have bU : 0 ≤ U ∧ U ≤ L - D := hU ▸ within_le (by omega)
  generalize hK : withinF k 1 L = K
  have bK : 1 ≤ K ∧ K ≤ L := hK ▸ within_le (by omega)
  have cL : capB L = true := by simp [capB]; omega
  have cK : capB K = true := by simp [capB]; omega
  have wLD : IntKind.i64.wrap (L - D) = L - D := w64 (by omega) (by omega)
  refine calls_sm (cx 169 [(18, [(0, []), (1, []), (2, []), (3, []), (5, []), (4, [5]), (6, []), (7, []), (8, [])]), (24, [(0, []), (2, []), (1, [2]), (3, []), (4, []), (5, []), (6, []), (7, []), (8, []), (9, [])]), (25, [(0, []), (2, []), (1, []), (3, []), (4, []), (5, []), (6, []), (7, []), (8, []), (9, []), (10, []), (11, []), (13, []), (12, [13]), (14, []), (15, []), (16, []), (17, []), (18, []), (19, []), (20, []), (21, [])])] [] w) (vals := [.int .i64 x, .int .i64 y, .int .i64 z, .int .i64 k]) mixed Tryd.func3 rfl rfl rfl hI rfl (st rfl ?_); conv => arg 3; whnf
  refine n_sameP (.lit true) rfl rfl rfl (fun _ w1 _ hI1 => alive_ok (hs.frm hI1.frm (by simp) hB) (Nat.le_trans hB hI1.frm.size)) ?_
  (refine st rfl ?_; conv => arg 3; whnf)
  (repeat (first | (refine n_must rfl ?_; (refine st rfl ?_; conv => arg 3; whnf)) | (refine n_chk (drawF_ok (by decide +kernel)) ?_; (refine st rfl ?_; conv => arg 3; whnf)) | (refine n_same rfl ?_; (refine st rfl ?_; conv => arg 3; whnf)) | (refine n_brT ?_ ?_; (focus (simp <;> fail)); (refine st rfl ?_; conv => arg 3; whnf)) | (refine n_brF ?_ ?_; (focus (simp <;> fail)); (refine st rfl ?_; conv => arg 3; whnf))))
  refine n_sameP (.int .i64 L) rfl rfl rfl (fun _ w1 _ hI1 => hL ▸ within_ok x 1 1099511627776 hx (by omega) (by omega) (by omega) w1) ?_
  (refine st rfl ?_; conv => arg 3; whnf)
  (repeat (first | (refine n_must rfl ?_; (refine st rfl ?_; conv => arg 3; whnf)) | (refine n_chk (drawF_ok (by decide +kernel)) ?_; (refine st rfl ?_; conv => arg 3; whnf)) | (refine n_same rfl ?_; (refine st rfl ?_; conv => arg 3; whnf)) | (refine n_brT ?_ ?_; (focus (simp <;> fail)); (refine st rfl ?_; conv => arg 3; whnf)) | (refine n_brF ?_ ?_; (focus (simp <;> fail)); (refine st rfl ?_; conv => arg 3; whnf))))
  refine n_sameP (.int .i64 D) rfl rfl rfl (fun _ w1 _ hI1 => hD ▸ within_ok y 0 L hy (by omega) (by omega) (by omega) w1) ?_
  (refine st rfl ?_; conv => arg 3; whnf)
  (repeat (first | (refine n_must rfl ?_; (refine st rfl ?_; conv => arg 3; whnf)) | (refine n_chk (drawF_ok (by decide +kernel)) ?_; (refine st rfl ?_; conv => arg 3; whnf)) | (refine n_same rfl ?_; (refine st rfl ?_; conv => arg 3; whnf)) | (refine n_brT ?_ ?_; (focus (simp <;> fail)); (refine st rfl ?_; conv => arg 3; whnf)) | (refine n_brF ?_ ?_; (focus (simp <;> fail)); (refine st rfl ?_; conv => arg 3; whnf))))
  refine n_sameP (.int .i64 U) rfl rfl rfl (fun _ w1 _ hI1 => by rw [wLD]; exact hU ▸ within_ok z 0 (L - D) hz (by omega) (by omega) (by omega) w1) ?_
  (refine st rfl ?_; conv => arg 3; whnf)
  (repeat (first | (refine n_must rfl ?_; (refine st rfl ?_; conv => arg 3; whnf)) | (refine n_chk (drawF_ok (by decide +kernel)) ?_; (refine st rfl ?_; conv => arg 3; whnf)) | (refine n_same rfl ?_; (refine st rfl ?_; conv => arg 3; whnf)) | (refine n_brT ?_ ?_; (focus (simp <;> fail)); (refine st rfl ?_; conv => arg 3; whnf)) | (refine n_brF ?_ ?_; (focus (simp <;> fail)); (refine st rfl ?_; conv => arg 3; whnf))))
  refine n_sameP (.int .i64 K) rfl rfl rfl (fun _ w1 _ hI1 => hK ▸ within_ok k 1 L hk (by omega) (by omega) (by omega) w1) ?_
  (refine st rfl ?_; conv => arg 3; whnf)
  (repeat (first | (refine n_must rfl ?_; (refine st rfl ?_; conv => arg 3; whnf)) | (refine n_chk (drawF_ok (by decide +kernel)) ?_; (refine st rfl ?_; conv => arg 3; whnf)) | (refine n_same rfl ?_; (refine st rfl ?_; conv => arg 3; whnf)) | (refine n_brT ?_ ?_; (focus (simp <;> fail)); (refine st rfl ?_; conv => arg 3; whnf)) | (refine n_brF ?_ ?_; (focus (simp <;> fail)); (refine st rfl ?_; conv => arg 3; whnf))))
  refine n_new (.tup [.ptr 0 0, .int .i64 0]) ⟨62, (Led.mk 0 0 0 L 0).sv, true⟩ _ _ rfl rfl rfl (fun _ => rfl) (fun _ => rfl) (fun w1 _ => New_1 L cL w1) fun ba hba _ => ?_
  (refine st rfl ?_; conv => arg 3; whnf)
  (repeat (first | (refine n_must rfl ?_; (refine st rfl ?_; conv => arg 3; whnf)) | (refine n_chk (drawF_ok (by decide +kernel)) ?_; (refine st rfl ?_; conv => arg 3; whnf)) | (refine n_same rfl ?_; (refine st rfl ?_; conv => arg 3; whnf)) | (refine n_brT ?_ ?_; (focus (simp <;> fail)); (refine st rfl ?_; conv => arg 3; whnf)) | (refine n_brF ?_ ?_; (focus (simp <;> fail)); (refine st rfl ?_; conv => arg 3; whnf))))
  refine n_new (.tup [.ptr 1 0, .int .i64 0]) ⟨62, (Led.mk 0 0 0 L 0).sv, true⟩ _ _ rfl rfl rfl (fun _ => rfl) (fun _ => rfl) (fun w1 _ => New_1 L cL w1) fun bb hbb _ => ?_
  (refine st rfl ?_; conv => arg 3; whnf)
  (repeat (first | (refine n_must rfl ?_; (refine st rfl ?_; conv => arg 3; whnf)) | (refine n_chk (drawF_ok (by decide +kernel)) ?_; (refine st rfl ?_; conv => arg 3; whnf)) | (refine n_same rfl ?_; (refine st rfl ?_; conv => arg 3; whnf)) | (refine n_brT ?_ ?_; (focus (simp <;> fail)); (refine st rfl ?_; conv => arg 3; whnf)) | (refine n_brF ?_ ?_; (focus (simp <;> fail)); (refine st rfl ?_; conv => arg 3; whnf))))
  have hba0 : b0 ≤ ba := Nat.le_trans hB hba
  have hbb0 : b0 ≤ bb := Nat.le_trans hB hbb
  have k0 : (Led.mk 0 0 0 L 0).ok := Led.new_ok cL
  have k1 : (Led.mk D U 0 L 0).ok := by constructor <;> dsimp only <;> omega
  have eIn : (Led.mk 0 0 0 L 0).in_ D U = (Led.mk D U 0 L 0, .ok) := by simp only [Led.in_]; rw [if_neg (by omega), if_neg (by omega), if_neg (by omega)]; simp
  refine n_updP 0 (.int .i64 0) (Led.mk D U 0 L 0).sv rfl rfl rfl rfl rfl rfl rfl (fun _ w1 hp hI1 => In_at (r := .ok) (hs.frm hI1.frm (by simp) hB) hba0 (Nat.le_trans hB hI1.frm.size) D U k0 eIn (hI1.blk_at hp 0 rfl rfl rfl)) ?_
  (refine st rfl ?_; conv => arg 3; whnf)
  (repeat (first | (refine n_must rfl ?_; (refine st rfl ?_; conv => arg 3; whnf)) | (refine n_chk (drawF_ok (by decide +kernel)) ?_; (refine st rfl ?_; conv => arg 3; whnf)) | (refine n_same rfl ?_; (refine st rfl ?_; conv => arg 3; whnf)) | (refine n_brT ?_ ?_; (focus (simp <;> fail)); (refine st rfl ?_; conv => arg 3; whnf)) | (refine n_brF ?_ ?_; (focus (simp <;> fail)); (refine st rfl ?_; conv => arg 3; whnf))))
  refine n_updP 1 (.int .i64 0) (Led.mk D U 0 L 0).sv rfl rfl rfl rfl rfl rfl rfl (fun _ w1 hp hI1 => In_at (r := .ok) (hs.frm hI1.frm (by simp) hB) hbb0 (Nat.le_trans hB hI1.frm.size) D U k0 eIn (hI1.blk_at hp 1 rfl rfl rfl)) ?_
  (refine st rfl ?_; conv => arg 3; whnf)
  (repeat (first | (refine n_must rfl ?_; (refine st rfl ?_; conv => arg 3; whnf)) | (refine n_chk (drawF_ok (by decide +kernel)) ?_; (refine st rfl ?_; conv => arg 3; whnf)) | (refine n_same rfl ?_; (refine st rfl ?_; conv => arg 3; whnf)) | (refine n_brT ?_ ?_; (focus (simp <;> fail)); (refine st rfl ?_; conv => arg 3; whnf)) | (refine n_brF ?_ ?_; (focus (simp <;> fail)); (refine st rfl ?_; conv => arg 3; whnf))))
  by_cases hKD : K ≤ D
  · have k2 : (Led.mk (D - K) (U + K) 0 L 0).ok := by constructor <;> dsimp only <;> omega
    have k3 : (Led.mk (D - K) U K L 0).ok := by constructor <;> dsimp only <;> omega
    have eDec : (Led.mk D U 0 L 0).turn 0 1 K = (Led.mk (D - K) (U + K) 0 L 0, .ok) := by simp only [Led.turn, cK, Led.get, Led.set]; rw [if_neg (by simp), if_neg (by omega)]
    have eInc : (Led.mk (D - K) (U + K) 0 L 0).turn 1 0 K = (Led.mk D U 0 L 0, .ok) := by simp only [Led.turn, cK, Led.get, Led.set]; rw [if_neg (by simp), if_neg (by omega)]; simp
    have eLock : (Led.mk D U 0 L 0).turn 0 2 K = (Led.mk (D - K) U K L 0, .ok) := by simp only [Led.turn, cK, Led.get, Led.set]; rw [if_neg (by simp), if_neg (by omega)]; simp
    have eFree : (Led.mk (D - K) U K L 0).turn 2 0 K = (Led.mk D U 0 L 0, .ok) := by simp only [Led.turn, cK, Led.get, Led.set]; rw [if_neg (by simp), if_neg (by omega)]; simp
    have eBurn : (Led.mk (D - K) U K L 0).turn 2 1 K = (Led.mk (D - K) (U + K) 0 L 0, .ok) := by simp only [Led.turn, cK, Led.get, Led.set]; rw [if_neg (by simp), if_neg (by omega)]; simp
    refine n_updP 0 (.int .i64 0) (Led.mk (D - K) (U + K) 0 L 0).sv rfl rfl rfl rfl rfl rfl rfl (fun _ w1 hp hI1 => Dec_at (r := .ok) (hs.frm hI1.frm (by simp) hB) hba0 (Nat.le_trans hB hI1.frm.size) K k1 eDec (hI1.blk_at hp 0 rfl rfl rfl)) ?_
    (refine st rfl ?_; conv => arg 3; whnf)
    (repeat (first | (refine n_must rfl ?_; (refine st rfl ?_; conv => arg 3; whnf)) | (refine n_chk (drawF_ok (by decide +kernel)) ?_; (refine st rfl ?_; conv => arg 3; whnf)) | (refine n_same rfl ?_; (refine st rfl ?_; conv => arg 3; whnf)) | (refine n_brT ?_ ?_; (focus (simp [hKD] <;> fail)); (refine st rfl ?_; conv => arg 3; whnf)) | (refine n_brF ?_ ?_; (focus (simp [hKD] <;> fail)); (refine st rfl ?_; conv => arg 3; whnf))))
    refine n_updP 0 (.int .i64 0) (Led.mk D U 0 L 0).sv rfl rfl rfl rfl rfl rfl rfl (fun _ w1 hp hI1 => Inc_at (r := .ok) (hs.frm hI1.frm (by simp) hB) hba0 (Nat.le_trans hB hI1.frm.size) K k2 eInc (hI1.blk_at hp 0 rfl rfl rfl)) ?_
    (refine st rfl ?_; conv => arg 3; whnf)
    (repeat (first | (refine n_must rfl ?_; (refine st rfl ?_; conv => arg 3; whnf)) | (refine n_chk (drawF_ok (by decide +kernel)) ?_; (refine st rfl ?_; conv => arg 3; whnf)) | (refine n_same rfl ?_; (refine st rfl ?_; conv => arg 3; whnf)) | (refine n_brT ?_ ?_; (focus (simp [hKD] <;> fail)); (refine st rfl ?_; conv => arg 3; whnf)) | (refine n_brF ?_ ?_; (focus (simp [hKD] <;> fail)); (refine st rfl ?_; conv => arg 3; whnf))))
    refine n_sameP (.agg [.int .i64 D, .int .i64 U]) rfl rfl rfl (fun _ w1 hp hI1 => Rights_ok (Led.mk D U 0 L 0) (hI1.blk_at hp 0 rfl rfl rfl)) ?_
    (refine st rfl ?_; conv => arg 3; whnf)
    (repeat (first | (refine n_must rfl ?_; (refine st rfl ?_; conv => arg 3; whnf)) | (refine n_chk (drawF_ok (by decide +kernel)) ?_; (refine st rfl ?_; conv => arg 3; whnf)) | (refine n_same rfl ?_; (refine st rfl ?_; conv => arg 3; whnf)) | (refine n_brT ?_ ?_; (focus (simp [hKD] <;> fail)); (refine st rfl ?_; conv => arg 3; whnf)) | (refine n_brF ?_ ?_; (focus (simp [hKD] <;> fail)); (refine st rfl ?_; conv => arg 3; whnf))))
    refine n_sameP (.lit true) rfl rfl rfl (fun _ w1 _ _ => same_refl D U w1) ?_
    (refine st rfl ?_; conv => arg 3; whnf)
    (repeat (first | (refine n_must rfl ?_; (refine st rfl ?_; conv => arg 3; whnf)) | (refine n_chk (drawF_ok (by decide +kernel)) ?_; (refine st rfl ?_; conv => arg 3; whnf)) | (refine n_same rfl ?_; (refine st rfl ?_; conv => arg 3; whnf)) | (refine n_brT ?_ ?_; (focus (simp [hKD] <;> fail)); (refine st rfl ?_; conv => arg 3; whnf)) | (refine n_brF ?_ ?_; (focus (simp [hKD] <;> fail)); (refine st rfl ?_; conv => arg 3; whnf))))
    refine n_updP 0 (.int .i64 0) (Led.mk (D - K) U K L 0).sv rfl rfl rfl rfl rfl rfl rfl (fun _ w1 hp hI1 => Lock_at (r := .ok) (hs.frm hI1.frm (by simp) hB) hba0 (Nat.le_trans hB hI1.frm.size) K k1 eLock (hI1.blk_at hp 0 rfl rfl rfl)) ?_
    (refine st rfl ?_; conv => arg 3; whnf)
    (repeat (first | (refine n_must rfl ?_; (refine st rfl ?_; conv => arg 3; whnf)) | (refine n_chk (drawF_ok (by decide +kernel)) ?_; (refine st rfl ?_; conv => arg 3; whnf)) | (refine n_same rfl ?_; (refine st rfl ?_; conv => arg 3; whnf)) | (refine n_brT ?_ ?_; (focus (simp [hKD] <;> fail)); (refine st rfl ?_; conv => arg 3; whnf)) | (refine n_brF ?_ ?_; (focus (simp [hKD] <;> fail)); (refine st rfl ?_; conv => arg 3; whnf))))
    refine n_sameP (.int .i64 K) rfl rfl rfl (fun _ w1 hp hI1 => Held_ok (Led.mk (D - K) U K L 0) (hI1.blk_at hp 0 rfl rfl rfl)) ?_
    (refine st rfl ?_; conv => arg 3; whnf)
    (repeat (first | (refine n_must rfl ?_; (refine st rfl ?_; conv => arg 3; whnf)) | (refine n_chk (drawF_ok (by decide +kernel)) ?_; (refine st rfl ?_; conv => arg 3; whnf)) | (refine n_same rfl ?_; (refine st rfl ?_; conv => arg 3; whnf)) | (refine n_brT ?_ ?_; (focus (simp [hKD] <;> fail)); (refine st rfl ?_; conv => arg 3; whnf)) | (refine n_brF ?_ ?_; (focus (simp [hKD] <;> fail)); (refine st rfl ?_; conv => arg 3; whnf))))
    refine n_updP 0 (.int .i64 0) (Led.mk D U 0 L 0).sv rfl rfl rfl rfl rfl rfl rfl (fun _ w1 hp hI1 => Free_at (r := .ok) (hs.frm hI1.frm (by simp) hB) hba0 (Nat.le_trans hB hI1.frm.size) K k3 eFree (hI1.blk_at hp 0 rfl rfl rfl)) ?_
    (refine st rfl ?_; conv => arg 3; whnf)
    (repeat (first | (refine n_must rfl ?_; (refine st rfl ?_; conv => arg 3; whnf)) | (refine n_chk (drawF_ok (by decide +kernel)) ?_; (refine st rfl ?_; conv => arg 3; whnf)) | (refine n_same rfl ?_; (refine st rfl ?_; conv => arg 3; whnf)) | (refine n_brT ?_ ?_; (focus (simp [hKD] <;> fail)); (refine st rfl ?_; conv => arg 3; whnf)) | (refine n_brF ?_ ?_; (focus (simp [hKD] <;> fail)); (refine st rfl ?_; conv => arg 3; whnf))))
    refine n_sameP (.agg [.int .i64 D, .int .i64 U]) rfl rfl rfl (fun _ w1 hp hI1 => Rights_ok (Led.mk D U 0 L 0) (hI1.blk_at hp 0 rfl rfl rfl)) ?_
    (refine st rfl ?_; conv => arg 3; whnf)
    (repeat (first | (refine n_must rfl ?_; (refine st rfl ?_; conv => arg 3; whnf)) | (refine n_chk (drawF_ok (by decide +kernel)) ?_; (refine st rfl ?_; conv => arg 3; whnf)) | (refine n_same rfl ?_; (refine st rfl ?_; conv => arg 3; whnf)) | (refine n_brT ?_ ?_; (focus (simp [hKD] <;> fail)); (refine st rfl ?_; conv => arg 3; whnf)) | (refine n_brF ?_ ?_; (focus (simp [hKD] <;> fail)); (refine st rfl ?_; conv => arg 3; whnf))))
    refine n_sameP (.lit true) rfl rfl rfl (fun _ w1 _ _ => same_refl D U w1) ?_
    (refine st rfl ?_; conv => arg 3; whnf)
    (repeat (first | (refine n_must rfl ?_; (refine st rfl ?_; conv => arg 3; whnf)) | (refine n_chk (drawF_ok (by decide +kernel)) ?_; (refine st rfl ?_; conv => arg 3; whnf)) | (refine n_same rfl ?_; (refine st rfl ?_; conv => arg 3; whnf)) | (refine n_brT ?_ ?_; (focus (simp [hKD] <;> fail)); (refine st rfl ?_; conv => arg 3; whnf)) | (refine n_brF ?_ ?_; (focus (simp [hKD] <;> fail)); (refine st rfl ?_; conv => arg 3; whnf))))
    refine n_sameP (.int .i64 0) rfl rfl rfl (fun _ w1 hp hI1 => Held_ok (Led.mk D U 0 L 0) (hI1.blk_at hp 0 rfl rfl rfl)) ?_
    (refine st rfl ?_; conv => arg 3; whnf)
    (repeat (first | (refine n_must rfl ?_; (refine st rfl ?_; conv => arg 3; whnf)) | (refine n_chk (drawF_ok (by decide +kernel)) ?_; (refine st rfl ?_; conv => arg 3; whnf)) | (refine n_same rfl ?_; (refine st rfl ?_; conv => arg 3; whnf)) | (refine n_brT ?_ ?_; (focus (simp [hKD] <;> fail)); (refine st rfl ?_; conv => arg 3; whnf)) | (refine n_brF ?_ ?_; (focus (simp [hKD] <;> fail)); (refine st rfl ?_; conv => arg 3; whnf))))
    refine n_updP 0 (.int .i64 0) (Led.mk (D - K) U K L 0).sv rfl rfl rfl rfl rfl rfl rfl (fun _ w1 hp hI1 => Lock_at (r := .ok) (hs.frm hI1.frm (by simp) hB) hba0 (Nat.le_trans hB hI1.frm.size) K k1 eLock (hI1.blk_at hp 0 rfl rfl rfl)) ?_
    (refine st rfl ?_; conv => arg 3; whnf)
    (repeat (first | (refine n_must rfl ?_; (refine st rfl ?_; conv => arg 3; whnf)) | (refine n_chk (drawF_ok (by decide +kernel)) ?_; (refine st rfl ?_; conv => arg 3; whnf)) | (refine n_same rfl ?_; (refine st rfl ?_; conv => arg 3; whnf)) | (refine n_brT ?_ ?_; (focus (simp [hKD] <;> fail)); (refine st rfl ?_; conv => arg 3; whnf)) | (refine n_brF ?_ ?_; (focus (simp [hKD] <;> fail)); (refine st rfl ?_; conv => arg 3; whnf))))
    refine n_updP 0 (.int .i64 0) (Led.mk (D - K) (U + K) 0 L 0).sv rfl rfl rfl rfl rfl rfl rfl (fun _ w1 hp hI1 => Burn_at (r := .ok) (hs.frm hI1.frm (by simp) hB) hba0 (Nat.le_trans hB hI1.frm.size) K k3 eBurn (hI1.blk_at hp 0 rfl rfl rfl)) ?_
    (refine st rfl ?_; conv => arg 3; whnf)
    (repeat (first | (refine n_must rfl ?_; (refine st rfl ?_; conv => arg 3; whnf)) | (refine n_chk (drawF_ok (by decide +kernel)) ?_; (refine st rfl ?_; conv => arg 3; whnf)) | (refine n_same rfl ?_; (refine st rfl ?_; conv => arg 3; whnf)) | (refine n_brT ?_ ?_; (focus (simp [hKD] <;> fail)); (refine st rfl ?_; conv => arg 3; whnf)) | (refine n_brF ?_ ?_; (focus (simp [hKD] <;> fail)); (refine st rfl ?_; conv => arg 3; whnf))))
    refine n_updP 1 (.int .i64 0) (Led.mk (D - K) (U + K) 0 L 0).sv rfl rfl rfl rfl rfl rfl rfl (fun _ w1 hp hI1 => Dec_at (r := .ok) (hs.frm hI1.frm (by simp) hB) hbb0 (Nat.le_trans hB hI1.frm.size) K k1 eDec (hI1.blk_at hp 1 rfl rfl rfl)) ?_
    (refine st rfl ?_; conv => arg 3; whnf)
    (repeat (first | (refine n_must rfl ?_; (refine st rfl ?_; conv => arg 3; whnf)) | (refine n_chk (drawF_ok (by decide +kernel)) ?_; (refine st rfl ?_; conv => arg 3; whnf)) | (refine n_same rfl ?_; (refine st rfl ?_; conv => arg 3; whnf)) | (refine n_brT ?_ ?_; (focus (simp [hKD] <;> fail)); (refine st rfl ?_; conv => arg 3; whnf)) | (refine n_brF ?_ ?_; (focus (simp [hKD] <;> fail)); (refine st rfl ?_; conv => arg 3; whnf))))
    refine n_sameP (.agg [.int .i64 (D - K), .int .i64 (U + K)]) rfl rfl rfl (fun _ w1 hp hI1 => Rights_ok (Led.mk (D - K) (U + K) 0 L 0) (hI1.blk_at hp 0 rfl rfl rfl)) ?_
    (refine st rfl ?_; conv => arg 3; whnf)
    (repeat (first | (refine n_must rfl ?_; (refine st rfl ?_; conv => arg 3; whnf)) | (refine n_chk (drawF_ok (by decide +kernel)) ?_; (refine st rfl ?_; conv => arg 3; whnf)) | (refine n_same rfl ?_; (refine st rfl ?_; conv => arg 3; whnf)) | (refine n_brT ?_ ?_; (focus (simp [hKD] <;> fail)); (refine st rfl ?_; conv => arg 3; whnf)) | (refine n_brF ?_ ?_; (focus (simp [hKD] <;> fail)); (refine st rfl ?_; conv => arg 3; whnf))))
    refine n_sameP (.agg [.int .i64 (D - K), .int .i64 (U + K)]) rfl rfl rfl (fun _ w1 hp hI1 => Rights_ok (Led.mk (D - K) (U + K) 0 L 0) (hI1.blk_at hp 1 rfl rfl rfl)) ?_
    (refine st rfl ?_; conv => arg 3; whnf)
    (repeat (first | (refine n_must rfl ?_; (refine st rfl ?_; conv => arg 3; whnf)) | (refine n_chk (drawF_ok (by decide +kernel)) ?_; (refine st rfl ?_; conv => arg 3; whnf)) | (refine n_same rfl ?_; (refine st rfl ?_; conv => arg 3; whnf)) | (refine n_brT ?_ ?_; (focus (simp [hKD] <;> fail)); (refine st rfl ?_; conv => arg 3; whnf)) | (refine n_brF ?_ ?_; (focus (simp [hKD] <;> fail)); (refine st rfl ?_; conv => arg 3; whnf))))
    refine n_sameP (.lit true) rfl rfl rfl (fun _ w1 _ _ => same_refl (D - K) (U + K) w1) ?_
    (refine st rfl ?_; conv => arg 3; whnf)
    (repeat (first | (refine n_must rfl ?_; (refine st rfl ?_; conv => arg 3; whnf)) | (refine n_chk (drawF_ok (by decide +kernel)) ?_; (refine st rfl ?_; conv => arg 3; whnf)) | (refine n_same rfl ?_; (refine st rfl ?_; conv => arg 3; whnf)) | (refine n_brT ?_ ?_; (focus (simp [hKD] <;> fail)); (refine st rfl ?_; conv => arg 3; whnf)) | (refine n_brF ?_ ?_; (focus (simp [hKD] <;> fail)); (refine st rfl ?_; conv => arg 3; whnf))))
    refine n_sameP (.int .i64 0) rfl rfl rfl (fun _ w1 hp hI1 => Held_ok (Led.mk (D - K) (U + K) 0 L 0) (hI1.blk_at hp 0 rfl rfl rfl)) ?_
    (refine st rfl ?_; conv => arg 3; whnf)
    (repeat (first | (refine n_must rfl ?_; (refine st rfl ?_; conv => arg 3; whnf)) | (refine n_chk (drawF_ok (by decide +kernel)) ?_; (refine st rfl ?_; conv => arg 3; whnf)) | (refine n_same rfl ?_; (refine st rfl ?_; conv => arg 3; whnf)) | (refine n_brT ?_ ?_; (focus (simp [hKD] <;> fail)); (refine st rfl ?_; conv => arg 3; whnf)) | (refine n_brF ?_ ?_; (focus (simp [hKD] <;> fail)); (refine st rfl ?_; conv => arg 3; whnf))))
    exact n_ret0 rfl rfl fun ids' w' hp hI' => ⟨rfl, hI'.frm⟩
  · have eDec : (Led.mk D U 0 L 0).turn 0 1 K = (Led.mk D U 0 L 0, .rights) := by simp only [Led.turn, cK, Led.get, Led.set]; rw [if_neg (by simp), if_pos (by omega)]
    have eLock : (Led.mk D U 0 L 0).turn 0 2 K = (Led.mk D U 0 L 0, .rights) := by simp only [Led.turn, cK, Led.get, Led.set]; rw [if_neg (by simp), if_pos (by omega)]
    refine n_updP 0 (.int .i64 60) (Led.mk D U 0 L 0).sv rfl rfl rfl rfl rfl rfl rfl (fun _ w1 hp hI1 => Dec_at (r := .rights) (hs.frm hI1.frm (by simp) hB) hba0 (Nat.le_trans hB hI1.frm.size) K k1 eDec (hI1.blk_at hp 0 rfl rfl rfl)) ?_
    (refine st rfl ?_; conv => arg 3; whnf)
    (repeat (first | (refine n_must rfl ?_; (refine st rfl ?_; conv => arg 3; whnf)) | (refine n_chk (drawF_ok (by decide +kernel)) ?_; (refine st rfl ?_; conv => arg 3; whnf)) | (refine n_same rfl ?_; (refine st rfl ?_; conv => arg 3; whnf)) | (refine n_brT ?_ ?_; (focus (simp [hKD] <;> fail)); (refine st rfl ?_; conv => arg 3; whnf)) | (refine n_brF ?_ ?_; (focus (simp [hKD] <;> fail)); (refine st rfl ?_; conv => arg 3; whnf))))
    refine n_updP 0 (.int .i64 60) (Led.mk D U 0 L 0).sv rfl rfl rfl rfl rfl rfl rfl (fun _ w1 hp hI1 => Lock_at (r := .rights) (hs.frm hI1.frm (by simp) hB) hba0 (Nat.le_trans hB hI1.frm.size) K k1 eLock (hI1.blk_at hp 0 rfl rfl rfl)) ?_
    (refine st rfl ?_; conv => arg 3; whnf)
    (repeat (first | (refine n_must rfl ?_; (refine st rfl ?_; conv => arg 3; whnf)) | (refine n_chk (drawF_ok (by decide +kernel)) ?_; (refine st rfl ?_; conv => arg 3; whnf)) | (refine n_same rfl ?_; (refine st rfl ?_; conv => arg 3; whnf)) | (refine n_brT ?_ ?_; (focus (simp [hKD] <;> fail)); (refine st rfl ?_; conv => arg 3; whnf)) | (refine n_brF ?_ ?_; (focus (simp [hKD] <;> fail)); (refine st rfl ?_; conv => arg 3; whnf))))
    refine n_sameP (.agg [.int .i64 D, .int .i64 U]) rfl rfl rfl (fun _ w1 hp hI1 => Rights_ok (Led.mk D U 0 L 0) (hI1.blk_at hp 0 rfl rfl rfl)) ?_
    (refine st rfl ?_; conv => arg 3; whnf)
    (repeat (first | (refine n_must rfl ?_; (refine st rfl ?_; conv => arg 3; whnf)) | (refine n_chk (drawF_ok (by decide +kernel)) ?_; (refine st rfl ?_; conv => arg 3; whnf)) | (refine n_same rfl ?_; (refine st rfl ?_; conv => arg 3; whnf)) | (refine n_brT ?_ ?_; (focus (simp [hKD] <;> fail)); (refine st rfl ?_; conv => arg 3; whnf)) | (refine n_brF ?_ ?_; (focus (simp [hKD] <;> fail)); (refine st rfl ?_; conv => arg 3; whnf))))
    refine n_sameP (.lit true) rfl rfl rfl (fun _ w1 _ _ => same_refl D U w1) ?_
    (refine st rfl ?_; conv => arg 3; whnf)
    (repeat (first | (refine n_must rfl ?_; (refine st rfl ?_; conv => arg 3; whnf)) | (refine n_chk (drawF_ok (by decide +kernel)) ?_; (refine st rfl ?_; conv => arg 3; whnf)) | (refine n_same rfl ?_; (refine st rfl ?_; conv => arg 3; whnf)) | (refine n_brT ?_ ?_; (focus (simp [hKD] <;> fail)); (refine st rfl ?_; conv => arg 3; whnf)) | (refine n_brF ?_ ?_; (focus (simp [hKD] <;> fail)); (refine st rfl ?_; conv => arg 3; whnf))))
    refine n_sameP (.int .i64 0) rfl rfl rfl (fun _ w1 hp hI1 => Held_ok (Led.mk D U 0 L 0) (hI1.blk_at hp 0 rfl rfl rfl)) ?_
    (refine st rfl ?_; conv => arg 3; whnf)
    (repeat (first | (refine n_must rfl ?_; (refine st rfl ?_; conv => arg 3; whnf)) | (refine n_chk (drawF_ok (by decide +kernel)) ?_; (refine st rfl ?_; conv => arg 3; whnf)) | (refine n_same rfl ?_; (refine st rfl ?_; conv => arg 3; whnf)) | (refine n_brT ?_ ?_; (focus (simp [hKD] <;> fail)); (refine st rfl ?_; conv => arg 3; whnf)) | (refine n_brF ?_ ?_; (focus (simp [hKD] <;> fail)); (refine st rfl ?_; conv => arg 3; whnf))))
    exact n_ret0 rfl rfl fun ids' w' hp hI' => ⟨rfl, hI'.frm⟩
end Go.Proofs.YthinmbcedgoglaaDoor
