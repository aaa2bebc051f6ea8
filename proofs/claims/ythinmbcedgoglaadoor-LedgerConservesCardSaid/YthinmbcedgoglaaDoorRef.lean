/- The document's ledger: the same numbers. -/
import Derived.Test.YthinmbcedgoglaaDoorLaw
set_option maxRecDepth 100000
set_option maxHeartbeats 2000000
set_option linter.unusedSimpArgs false
set_option linter.unusedVariables false
namespace Go.Proofs.YthinmbcedgoglaaDoor
open Go.RowKit

theorem rall_ok {b : Nat} {w : World} (s : Led) (ok : s.ok) (hb : Blk w b s.cells 79) :
    Calls Tryd.prog 55 #[.pointer (some ⟨b, 0, none⟩)] w fun e w' => e = .returned (.int .i64 (s.d + s.u + s.h)) ∧ Frm [] w w' := by
  obtain ⟨d, u, k, lim, n⟩ := s
  obtain ⟨d0, u0, h0, sum, one, cap⟩ := ok
  dsimp only at d0 u0 h0 sum one cap
  have hI : Inv (cx 20 [] [] w) w [b] [⟨79, (Led.mk d u k lim n).sv, false⟩] := (Inv.nil w).cons (by simp) rfl hb (by simp)
  refine calls_sm (cx 20 [] [] w) (vals := [.ptr 0 0]) mixed Tryd.func55 rfl rfl rfl hI rfl (st rfl ?_); conv => arg 3; whnf
  (repeat (first | (refine n_must rfl ?_; (refine st rfl ?_; conv => arg 3; whnf)) | (refine n_chk (drawF_ok (by decide +kernel)) ?_; (refine st rfl ?_; conv => arg 3; whnf)) | (refine n_same rfl ?_; (refine st rfl ?_; conv => arg 3; whnf))))
  exact n_ret0 rfl rfl fun ids' w' hp hI' => ⟨ret_int (by show _ = d + u + k; rw [w64 (n := d + u) (by omega) (by omega)]; exact w64 (n := d + u + k) (by omega) (by omega)), hI'.frm⟩

theorem rRights_ok {b : Nat} {w : World} (s : Led) (hb : Blk w b s.cells 79) :
    Calls Tryd.prog 50 #[.pointer (some ⟨b, 0, none⟩)] w fun e w' => e = .returned (.agg #[.int .i64 s.d, .int .i64 s.u]) ∧ Frm [] w w' := by
  have hI : Inv (cx 14 [] [] w) w [b] [⟨79, s.sv, false⟩] := (Inv.nil w).cons (by simp) rfl hb (by simp)
  refine calls_sm (cx 14 [] [] w) (vals := [.ptr 0 0]) mixed Tryd.func50 rfl rfl rfl hI rfl (st rfl ?_); conv => arg 3; whnf
  (repeat (first | (refine n_must rfl ?_; (refine st rfl ?_; conv => arg 3; whnf)) | (refine n_chk (drawF_ok (by decide +kernel)) ?_; (refine st rfl ?_; conv => arg 3; whnf)) | (refine n_same rfl ?_; (refine st rfl ?_; conv => arg 3; whnf))))
  exact n_ret0 rfl rfl fun ids' w' hp hI' => ⟨rfl, hI'.frm⟩
theorem rHeld_ok {b : Nat} {w : World} (s : Led) (hb : Blk w b s.cells 79) :
    Calls Tryd.prog 51 #[.pointer (some ⟨b, 0, none⟩)] w fun e w' => e = .returned (.int .i64 s.h) ∧ Frm [] w w' := by
  have hI : Inv (cx 8 [] [] w) w [b] [⟨79, s.sv, false⟩] := (Inv.nil w).cons (by simp) rfl hb (by simp)
  refine calls_sm (cx 8 [] [] w) (vals := [.ptr 0 0]) mixed Tryd.func51 rfl rfl rfl hI rfl (st rfl ?_); conv => arg 3; whnf
  (repeat (first | (refine n_must rfl ?_; (refine st rfl ?_; conv => arg 3; whnf)) | (refine n_chk (drawF_ok (by decide +kernel)) ?_; (refine st rfl ?_; conv => arg 3; whnf)) | (refine n_same rfl ?_; (refine st rfl ?_; conv => arg 3; whnf))))
  exact n_ret0 rfl rfl fun ids' w' hp hI' => ⟨rfl, hI'.frm⟩
theorem rAll_ok {b : Nat} {w : World} (s : Led) (hb : Blk w b s.cells 79) :
    Calls Tryd.prog 46 #[.pointer (some ⟨b, 0, none⟩)] w fun e w' => e = .returned (.agg #[.int .i64 s.d, .int .i64 s.u]) ∧ Frm [b] w w' ∧ Blk w' b ({ s with d := 0, u := 0 } : Led).cells 79 := by
  have hI := refInv (N := 15) (os := []) hb
  refine calls_sm (cx 15 [] [b] w) (vals := [.ptr 0 0]) mixed Tryd.func46 rfl rfl rfl hI rfl (st rfl ?_); conv => arg 3; whnf
  refine n_sameP (.agg [.int .i64 s.d, .int .i64 s.u]) rfl rfl rfl (fun _ w1 hp1 hI1 => rRights_ok s (hI1.blk_at hp1 0 rfl rfl rfl)) ?_
  (refine st rfl ?_; conv => arg 3; whnf)
  (repeat (first | (refine n_must rfl ?_; (refine st rfl ?_; conv => arg 3; whnf)) | (refine n_chk (drawF_ok (by decide +kernel)) ?_; (refine st rfl ?_; conv => arg 3; whnf)) | (refine n_same rfl ?_; (refine st rfl ?_; conv => arg 3; whnf))))
  exact n_ret0 rfl rfl fun ids' w' hp hI' => ⟨rfl, hI'.frm, hI'.blk_at hp 0 rfl rfl rfl⟩

theorem rIn_ok {b : Nat} {w : World} (s : Led) (ok : s.ok) (hb : Blk w b s.cells 79) (x y : Int) :
    Calls Tryd.prog 44 #[.pointer (some ⟨b, 0, none⟩), .agg #[.int .i64 x, .int .i64 y]] w fun e w' => e = .returned (.int .i64 (s.in_ x y).2.num) ∧ Frm [b] w w' ∧ Blk w' b (s.in_ x y).1.cells 79 := by
  have ok' := ok
  obtain ⟨d, u, k, lim, n⟩ := s
  obtain ⟨d0, u0, h0, sum, one, cap⟩ := ok
  dsimp only at d0 u0 h0 sum one cap
  have hI := refInv (N := 58) (os := [(3, [(0, []), (1, []), (2, []), (3, []), (4, []), (5, [3]), (6, []), (7, [])])]) hb
  refine calls_sm (cx 58 [(3, [(0, []), (1, []), (2, []), (3, []), (4, []), (5, [3]), (6, []), (7, [])])] [b] w) (vals := [.ptr 0 0, .agg [.int .i64 x, .int .i64 y]]) mixed Tryd.func44 rfl rfl rfl hI rfl (st rfl ?_); conv => arg 3; whnf
  refine n_br (fun h1 => ?_) (fun h1 => ?_) <;> simp at h1 <;> (refine st rfl ?_; conv => arg 3; whnf)
  · have e : (Led.mk d u k lim n).in_ x y = (Led.mk d u k lim n, .arg) := by simp only [Led.in_]; rw [if_pos (by omega)]
    rw [e]
    exact n_ret0 rfl rfl fun ids' w' hp hI' => ⟨rfl, hI'.frm, hI'.blk_at hp 0 rfl rfl rfl⟩
  · refine n_br (fun h2 => ?_) (fun h2 => ?_) <;> simp at h2 <;> (refine st rfl ?_; conv => arg 3; whnf)
    · have e : (Led.mk d u k lim n).in_ x y = (Led.mk d u k lim n, .arg) := by simp only [Led.in_]; rw [if_pos (by omega)]
      rw [e]
      exact n_ret0 rfl rfl fun ids' w' hp hI' => ⟨rfl, hI'.frm, hI'.blk_at hp 0 rfl rfl rfl⟩
    · refine n_chk (by decide +kernel) ?_
      (refine st rfl ?_; conv => arg 3; whnf)
      refine n_sameP (.int .i64 (d + u + k)) rfl rfl rfl (fun _ w1 hp1 hI1 => rall_ok (Led.mk d u k lim n) ok' (hI1.blk_at hp1 0 rfl rfl rfl)) ?_
      (refine st rfl ?_; conv => arg 3; whnf)
      (repeat (first | (refine n_must rfl ?_; (refine st rfl ?_; conv => arg 3; whnf)) | (refine n_chk (drawF_ok (by decide +kernel)) ?_; (refine st rfl ?_; conv => arg 3; whnf)) | (refine n_same rfl ?_; (refine st rfl ?_; conv => arg 3; whnf))))
      have e1 : IntKind.i64.wrap (lim - (d + u + k)) = lim - (d + u + k) := w64 (by omega) (by omega)
      refine n_br (fun h3 => ?_) (fun h3 => ?_) <;> rw [e1] at h3 <;> simp at h3 <;> (refine st rfl ?_; conv => arg 3; whnf)
      · have e : (Led.mk d u k lim n).in_ x y = (Led.mk d u k lim n, .cap) := by simp only [Led.in_]; rw [if_neg (by omega), if_pos (by omega)]
        rw [e]
        exact n_ret0 rfl rfl fun ids' w' hp hI' => ⟨rfl, hI'.frm, hI'.blk_at hp 0 rfl rfl rfl⟩
      · refine n_br (fun h4 => ?_) (fun h4 => ?_) <;> rw [e1, w64 (n := lim - (d + u + k) - x) (by omega) (by omega)] at h4 <;> simp at h4 <;> (refine st rfl ?_; conv => arg 3; whnf)
        · have e : (Led.mk d u k lim n).in_ x y = (Led.mk d u k lim n, .cap) := by
            simp only [Led.in_]; rw [if_neg (by omega)]
            split
            · rfl
            · rw [if_pos (by omega)]
          rw [e]
          exact n_ret0 rfl rfl fun ids' w' hp hI' => ⟨rfl, hI'.frm, hI'.blk_at hp 0 rfl rfl rfl⟩
        · (repeat (first | (refine n_must rfl ?_; (refine st rfl ?_; conv => arg 3; whnf)) | (refine n_chk (drawF_ok (by decide +kernel)) ?_; (refine st rfl ?_; conv => arg 3; whnf)) | (refine n_same rfl ?_; (refine st rfl ?_; conv => arg 3; whnf))))
          have e : (Led.mk d u k lim n).in_ x y = (Led.mk (d + x) (u + y) k lim n, .ok) := by simp only [Led.in_]; rw [if_neg (by omega), if_neg (by omega), if_neg (by omega)]
          rw [e]
          refine n_ret0 rfl rfl fun ids' w' hp hI' => ⟨rfl, hI'.frm, ?_⟩
          have hB := hI'.blk_at hp 0 rfl rfl rfl
          rw [w64 (n := d + x) (by omega) (by omega), w64 (n := u + y) (by omega) (by omega)] at hB
          exact hB

theorem rOut_ok {b : Nat} {w : World} (s : Led) (ok : s.ok) (hb : Blk w b s.cells 79) (x y : Int) :
    Calls Tryd.prog 45 #[.pointer (some ⟨b, 0, none⟩), .agg #[.int .i64 x, .int .i64 y]] w fun e w' => e = .returned (.int .i64 (s.out x y).2.num) ∧ Frm [b] w w' ∧ Blk w' b (s.out x y).1.cells 79 := by
  obtain ⟨d, u, k, lim, n⟩ := s
  obtain ⟨d0, u0, h0, sum, one, cap⟩ := ok
  dsimp only at d0 u0 h0 sum one cap
  have hI := refInv (N := 55) (os := []) hb
  refine calls_sm (cx 55 [] [b] w) (vals := [.ptr 0 0, .agg [.int .i64 x, .int .i64 y]]) mixed Tryd.func45 rfl rfl rfl hI rfl (st rfl ?_); conv => arg 3; whnf
  refine n_br (fun h1 => ?_) (fun h1 => ?_) <;> simp at h1 <;> (refine st rfl ?_; conv => arg 3; whnf)
  · have e : (Led.mk d u k lim n).out x y = (Led.mk d u k lim n, .arg) := by simp only [Led.out]; rw [if_pos (by omega)]
    rw [e]
    exact n_ret0 rfl rfl fun ids' w' hp hI' => ⟨rfl, hI'.frm, hI'.blk_at hp 0 rfl rfl rfl⟩
  · refine n_br (fun h2 => ?_) (fun h2 => ?_) <;> simp at h2 <;> (refine st rfl ?_; conv => arg 3; whnf)
    · have e : (Led.mk d u k lim n).out x y = (Led.mk d u k lim n, .arg) := by simp only [Led.out]; rw [if_pos (by omega)]
      rw [e]
      exact n_ret0 rfl rfl fun ids' w' hp hI' => ⟨rfl, hI'.frm, hI'.blk_at hp 0 rfl rfl rfl⟩
    · (repeat (first | (refine n_must rfl ?_; (refine st rfl ?_; conv => arg 3; whnf)) | (refine n_chk (drawF_ok (by decide +kernel)) ?_; (refine st rfl ?_; conv => arg 3; whnf)) | (refine n_same rfl ?_; (refine st rfl ?_; conv => arg 3; whnf))))
      refine n_br (fun h3 => ?_) (fun h3 => ?_) <;> simp at h3 <;> (refine st rfl ?_; conv => arg 3; whnf)
      · have e : (Led.mk d u k lim n).out x y = (Led.mk d u k lim n, .rights) := by simp only [Led.out]; rw [if_neg (by omega), if_pos (by omega)]
        rw [e]
        exact n_ret0 rfl rfl fun ids' w' hp hI' => ⟨rfl, hI'.frm, hI'.blk_at hp 0 rfl rfl rfl⟩
      · (repeat (first | (refine n_must rfl ?_; (refine st rfl ?_; conv => arg 3; whnf)) | (refine n_chk (drawF_ok (by decide +kernel)) ?_; (refine st rfl ?_; conv => arg 3; whnf)) | (refine n_same rfl ?_; (refine st rfl ?_; conv => arg 3; whnf))))
        refine n_br (fun h4 => ?_) (fun h4 => ?_) <;> simp at h4 <;> (refine st rfl ?_; conv => arg 3; whnf)
        · have e : (Led.mk d u k lim n).out x y = (Led.mk d u k lim n, .rights) := by simp only [Led.out]; rw [if_neg (by omega), if_neg (by omega), if_pos (by omega)]
          rw [e]
          exact n_ret0 rfl rfl fun ids' w' hp hI' => ⟨rfl, hI'.frm, hI'.blk_at hp 0 rfl rfl rfl⟩
        · (repeat (first | (refine n_must rfl ?_; (refine st rfl ?_; conv => arg 3; whnf)) | (refine n_chk (drawF_ok (by decide +kernel)) ?_; (refine st rfl ?_; conv => arg 3; whnf)) | (refine n_same rfl ?_; (refine st rfl ?_; conv => arg 3; whnf))))
          have e : (Led.mk d u k lim n).out x y = (Led.mk (d - x) (u - y) k lim n, .ok) := by simp only [Led.out]; rw [if_neg (by omega), if_neg (by omega), if_neg (by omega)]
          rw [e]
          refine n_ret0 rfl rfl fun ids' w' hp hI' => ⟨rfl, hI'.frm, ?_⟩
          have hB := hI'.blk_at hp 0 rfl rfl rfl
          rw [w64 (n := d - x) (by omega) (by omega), w64 (n := u - y) (by omega) (by omega)] at hB
          exact hB

theorem rturn_ok {b : Nat} {w : World} (s : Led) (ok : s.ok) (hb : Blk w b s.cells 79) (x : Int) (i j : Nat) (hij : i = 0 ∧ j = 1 ∨ i = 1 ∧ j = 0 ∨ i = 0 ∧ j = 2 ∨ i = 2 ∧ j = 0 ∨ i = 2 ∧ j = 1) :
    Calls Tryd.prog 54 #[.pointer (some ⟨b, 0, none⟩), .int .i64 x, .int .i64 i, .int .i64 j] w fun e w' => e = .returned (.int .i64 (s.turn i j x).2.num) ∧ Frm [b] w w' ∧ Blk w' b (s.turn i j x).1.cells 79 := by
  obtain ⟨d, u, k, lim, n⟩ := s
  obtain ⟨d0, u0, h0, sum, one, cap⟩ := ok
  dsimp only at d0 u0 h0 sum one cap
  have hI := refInv (N := 49) (os := []) hb
  rcases hij with ⟨rfl, rfl⟩ | ⟨rfl, rfl⟩ | ⟨rfl, rfl⟩ | ⟨rfl, rfl⟩ | ⟨rfl, rfl⟩
  · refine calls_sm (cx 49 [] [b] w) (vals := [.ptr 0 0, .int .i64 x, .int .i64 0, .int .i64 1]) mixed Tryd.func54 rfl rfl rfl hI rfl (st rfl ?_); conv => arg 3; whnf
    refine n_br (fun h1 => ?_) (fun h1 => ?_) <;> simp at h1 <;> (refine st rfl ?_; conv => arg 3; whnf)
    · have h : capB x = false := by simp [capB]; omega
      have e : (Led.mk d u k lim n).turn 0 1 x = (Led.mk d u k lim n, .arg) := by simp [Led.turn, h]
      rw [e]
      exact n_ret0 rfl rfl fun ids' w' hp hI' => ⟨rfl, hI'.frm, hI'.blk_at hp 0 rfl rfl rfl⟩
    · refine n_br (fun h2 => ?_) (fun h2 => ?_) <;> simp at h2 <;> (refine st rfl ?_; conv => arg 3; whnf)
      · have h : capB x = false := by simp [capB]; omega
        have e : (Led.mk d u k lim n).turn 0 1 x = (Led.mk d u k lim n, .arg) := by simp [Led.turn, h]
        rw [e]
        exact n_ret0 rfl rfl fun ids' w' hp hI' => ⟨rfl, hI'.frm, hI'.blk_at hp 0 rfl rfl rfl⟩
      · have h : capB x = true := by simp [capB]; omega
        (repeat (first | (refine n_must rfl ?_; (refine st rfl ?_; conv => arg 3; whnf)) | (refine n_chk (drawF_ok (by decide +kernel)) ?_; (refine st rfl ?_; conv => arg 3; whnf)) | (refine n_same rfl ?_; (refine st rfl ?_; conv => arg 3; whnf))))
        refine n_br (fun h3 => ?_) (fun h3 => ?_) <;> simp at h3 <;> (refine st rfl ?_; conv => arg 3; whnf)
        · have e : (Led.mk d u k lim n).turn 0 1 x = (Led.mk d u k lim n, .rights) := by simp [Led.turn, h, Led.get, h3]
          rw [e]
          exact n_ret0 rfl rfl fun ids' w' hp hI' => ⟨rfl, hI'.frm, hI'.blk_at hp 0 rfl rfl rfl⟩
        · (repeat (first | (refine n_must rfl ?_; (refine st rfl ?_; conv => arg 3; whnf)) | (refine n_chk (drawF_ok (by decide +kernel)) ?_; (refine st rfl ?_; conv => arg 3; whnf)) | (refine n_same rfl ?_; (refine st rfl ?_; conv => arg 3; whnf))))
          have e : (Led.mk d u k lim n).turn 0 1 x = (((Led.mk d u k lim n).set (d - x) 0).set (u + x) 1, .ok) := by simp only [Led.turn, h, Led.get]; rw [if_neg (by simp), if_neg (by omega)]
          rw [e]
          refine n_ret0 rfl rfl fun ids' w' hp hI' => ⟨rfl, hI'.frm, ?_⟩
          have hB := hI'.blk_at hp 0 rfl rfl rfl
          rw [w64 (n := d - x) (by omega) (by omega), w64 (n := u + x) (by omega) (by omega)] at hB
          exact hB
  · refine calls_sm (cx 49 [] [b] w) (vals := [.ptr 0 0, .int .i64 x, .int .i64 1, .int .i64 0]) mixed Tryd.func54 rfl rfl rfl hI rfl (st rfl ?_); conv => arg 3; whnf
    refine n_br (fun h1 => ?_) (fun h1 => ?_) <;> simp at h1 <;> (refine st rfl ?_; conv => arg 3; whnf)
    · have h : capB x = false := by simp [capB]; omega
      have e : (Led.mk d u k lim n).turn 1 0 x = (Led.mk d u k lim n, .arg) := by simp [Led.turn, h]
      rw [e]
      exact n_ret0 rfl rfl fun ids' w' hp hI' => ⟨rfl, hI'.frm, hI'.blk_at hp 0 rfl rfl rfl⟩
    · refine n_br (fun h2 => ?_) (fun h2 => ?_) <;> simp at h2 <;> (refine st rfl ?_; conv => arg 3; whnf)
      · have h : capB x = false := by simp [capB]; omega
        have e : (Led.mk d u k lim n).turn 1 0 x = (Led.mk d u k lim n, .arg) := by simp [Led.turn, h]
        rw [e]
        exact n_ret0 rfl rfl fun ids' w' hp hI' => ⟨rfl, hI'.frm, hI'.blk_at hp 0 rfl rfl rfl⟩
      · have h : capB x = true := by simp [capB]; omega
        (repeat (first | (refine n_must rfl ?_; (refine st rfl ?_; conv => arg 3; whnf)) | (refine n_chk (drawF_ok (by decide +kernel)) ?_; (refine st rfl ?_; conv => arg 3; whnf)) | (refine n_same rfl ?_; (refine st rfl ?_; conv => arg 3; whnf))))
        refine n_br (fun h3 => ?_) (fun h3 => ?_) <;> simp at h3 <;> (refine st rfl ?_; conv => arg 3; whnf)
        · have e : (Led.mk d u k lim n).turn 1 0 x = (Led.mk d u k lim n, .rights) := by simp [Led.turn, h, Led.get, h3]
          rw [e]
          exact n_ret0 rfl rfl fun ids' w' hp hI' => ⟨rfl, hI'.frm, hI'.blk_at hp 0 rfl rfl rfl⟩
        · (repeat (first | (refine n_must rfl ?_; (refine st rfl ?_; conv => arg 3; whnf)) | (refine n_chk (drawF_ok (by decide +kernel)) ?_; (refine st rfl ?_; conv => arg 3; whnf)) | (refine n_same rfl ?_; (refine st rfl ?_; conv => arg 3; whnf))))
          have e : (Led.mk d u k lim n).turn 1 0 x = (((Led.mk d u k lim n).set (u - x) 1).set (d + x) 0, .ok) := by simp only [Led.turn, h, Led.get]; rw [if_neg (by simp), if_neg (by omega)]
          rw [e]
          refine n_ret0 rfl rfl fun ids' w' hp hI' => ⟨rfl, hI'.frm, ?_⟩
          have hB := hI'.blk_at hp 0 rfl rfl rfl
          rw [w64 (n := u - x) (by omega) (by omega), w64 (n := d + x) (by omega) (by omega)] at hB
          exact hB
  · refine calls_sm (cx 49 [] [b] w) (vals := [.ptr 0 0, .int .i64 x, .int .i64 0, .int .i64 2]) mixed Tryd.func54 rfl rfl rfl hI rfl (st rfl ?_); conv => arg 3; whnf
    refine n_br (fun h1 => ?_) (fun h1 => ?_) <;> simp at h1 <;> (refine st rfl ?_; conv => arg 3; whnf)
    · have h : capB x = false := by simp [capB]; omega
      have e : (Led.mk d u k lim n).turn 0 2 x = (Led.mk d u k lim n, .arg) := by simp [Led.turn, h]
      rw [e]
      exact n_ret0 rfl rfl fun ids' w' hp hI' => ⟨rfl, hI'.frm, hI'.blk_at hp 0 rfl rfl rfl⟩
    · refine n_br (fun h2 => ?_) (fun h2 => ?_) <;> simp at h2 <;> (refine st rfl ?_; conv => arg 3; whnf)
      · have h : capB x = false := by simp [capB]; omega
        have e : (Led.mk d u k lim n).turn 0 2 x = (Led.mk d u k lim n, .arg) := by simp [Led.turn, h]
        rw [e]
        exact n_ret0 rfl rfl fun ids' w' hp hI' => ⟨rfl, hI'.frm, hI'.blk_at hp 0 rfl rfl rfl⟩
      · have h : capB x = true := by simp [capB]; omega
        (repeat (first | (refine n_must rfl ?_; (refine st rfl ?_; conv => arg 3; whnf)) | (refine n_chk (drawF_ok (by decide +kernel)) ?_; (refine st rfl ?_; conv => arg 3; whnf)) | (refine n_same rfl ?_; (refine st rfl ?_; conv => arg 3; whnf))))
        refine n_br (fun h3 => ?_) (fun h3 => ?_) <;> simp at h3 <;> (refine st rfl ?_; conv => arg 3; whnf)
        · have e : (Led.mk d u k lim n).turn 0 2 x = (Led.mk d u k lim n, .rights) := by simp [Led.turn, h, Led.get, h3]
          rw [e]
          exact n_ret0 rfl rfl fun ids' w' hp hI' => ⟨rfl, hI'.frm, hI'.blk_at hp 0 rfl rfl rfl⟩
        · (repeat (first | (refine n_must rfl ?_; (refine st rfl ?_; conv => arg 3; whnf)) | (refine n_chk (drawF_ok (by decide +kernel)) ?_; (refine st rfl ?_; conv => arg 3; whnf)) | (refine n_same rfl ?_; (refine st rfl ?_; conv => arg 3; whnf))))
          have e : (Led.mk d u k lim n).turn 0 2 x = (((Led.mk d u k lim n).set (d - x) 0).set (k + x) 2, .ok) := by simp only [Led.turn, h, Led.get]; rw [if_neg (by simp), if_neg (by omega)]
          rw [e]
          refine n_ret0 rfl rfl fun ids' w' hp hI' => ⟨rfl, hI'.frm, ?_⟩
          have hB := hI'.blk_at hp 0 rfl rfl rfl
          rw [w64 (n := d - x) (by omega) (by omega), w64 (n := k + x) (by omega) (by omega)] at hB
          exact hB
  · refine calls_sm (cx 49 [] [b] w) (vals := [.ptr 0 0, .int .i64 x, .int .i64 2, .int .i64 0]) mixed Tryd.func54 rfl rfl rfl hI rfl (st rfl ?_); conv => arg 3; whnf
    refine n_br (fun h1 => ?_) (fun h1 => ?_) <;> simp at h1 <;> (refine st rfl ?_; conv => arg 3; whnf)
    · have h : capB x = false := by simp [capB]; omega
      have e : (Led.mk d u k lim n).turn 2 0 x = (Led.mk d u k lim n, .arg) := by simp [Led.turn, h]
      rw [e]
      exact n_ret0 rfl rfl fun ids' w' hp hI' => ⟨rfl, hI'.frm, hI'.blk_at hp 0 rfl rfl rfl⟩
    · refine n_br (fun h2 => ?_) (fun h2 => ?_) <;> simp at h2 <;> (refine st rfl ?_; conv => arg 3; whnf)
      · have h : capB x = false := by simp [capB]; omega
        have e : (Led.mk d u k lim n).turn 2 0 x = (Led.mk d u k lim n, .arg) := by simp [Led.turn, h]
        rw [e]
        exact n_ret0 rfl rfl fun ids' w' hp hI' => ⟨rfl, hI'.frm, hI'.blk_at hp 0 rfl rfl rfl⟩
      · have h : capB x = true := by simp [capB]; omega
        (repeat (first | (refine n_must rfl ?_; (refine st rfl ?_; conv => arg 3; whnf)) | (refine n_chk (drawF_ok (by decide +kernel)) ?_; (refine st rfl ?_; conv => arg 3; whnf)) | (refine n_same rfl ?_; (refine st rfl ?_; conv => arg 3; whnf))))
        refine n_br (fun h3 => ?_) (fun h3 => ?_) <;> simp at h3 <;> (refine st rfl ?_; conv => arg 3; whnf)
        · have e : (Led.mk d u k lim n).turn 2 0 x = (Led.mk d u k lim n, .rights) := by simp [Led.turn, h, Led.get, h3]
          rw [e]
          exact n_ret0 rfl rfl fun ids' w' hp hI' => ⟨rfl, hI'.frm, hI'.blk_at hp 0 rfl rfl rfl⟩
        · (repeat (first | (refine n_must rfl ?_; (refine st rfl ?_; conv => arg 3; whnf)) | (refine n_chk (drawF_ok (by decide +kernel)) ?_; (refine st rfl ?_; conv => arg 3; whnf)) | (refine n_same rfl ?_; (refine st rfl ?_; conv => arg 3; whnf))))
          have e : (Led.mk d u k lim n).turn 2 0 x = (((Led.mk d u k lim n).set (k - x) 2).set (d + x) 0, .ok) := by simp only [Led.turn, h, Led.get]; rw [if_neg (by simp), if_neg (by omega)]
          rw [e]
          refine n_ret0 rfl rfl fun ids' w' hp hI' => ⟨rfl, hI'.frm, ?_⟩
          have hB := hI'.blk_at hp 0 rfl rfl rfl
          rw [w64 (n := k - x) (by omega) (by omega), w64 (n := d + x) (by omega) (by omega)] at hB
          exact hB
  · refine calls_sm (cx 49 [] [b] w) (vals := [.ptr 0 0, .int .i64 x, .int .i64 2, .int .i64 1]) mixed Tryd.func54 rfl rfl rfl hI rfl (st rfl ?_); conv => arg 3; whnf
    refine n_br (fun h1 => ?_) (fun h1 => ?_) <;> simp at h1 <;> (refine st rfl ?_; conv => arg 3; whnf)
    · have h : capB x = false := by simp [capB]; omega
      have e : (Led.mk d u k lim n).turn 2 1 x = (Led.mk d u k lim n, .arg) := by simp [Led.turn, h]
      rw [e]
      exact n_ret0 rfl rfl fun ids' w' hp hI' => ⟨rfl, hI'.frm, hI'.blk_at hp 0 rfl rfl rfl⟩
    · refine n_br (fun h2 => ?_) (fun h2 => ?_) <;> simp at h2 <;> (refine st rfl ?_; conv => arg 3; whnf)
      · have h : capB x = false := by simp [capB]; omega
        have e : (Led.mk d u k lim n).turn 2 1 x = (Led.mk d u k lim n, .arg) := by simp [Led.turn, h]
        rw [e]
        exact n_ret0 rfl rfl fun ids' w' hp hI' => ⟨rfl, hI'.frm, hI'.blk_at hp 0 rfl rfl rfl⟩
      · have h : capB x = true := by simp [capB]; omega
        (repeat (first | (refine n_must rfl ?_; (refine st rfl ?_; conv => arg 3; whnf)) | (refine n_chk (drawF_ok (by decide +kernel)) ?_; (refine st rfl ?_; conv => arg 3; whnf)) | (refine n_same rfl ?_; (refine st rfl ?_; conv => arg 3; whnf))))
        refine n_br (fun h3 => ?_) (fun h3 => ?_) <;> simp at h3 <;> (refine st rfl ?_; conv => arg 3; whnf)
        · have e : (Led.mk d u k lim n).turn 2 1 x = (Led.mk d u k lim n, .rights) := by simp [Led.turn, h, Led.get, h3]
          rw [e]
          exact n_ret0 rfl rfl fun ids' w' hp hI' => ⟨rfl, hI'.frm, hI'.blk_at hp 0 rfl rfl rfl⟩
        · (repeat (first | (refine n_must rfl ?_; (refine st rfl ?_; conv => arg 3; whnf)) | (refine n_chk (drawF_ok (by decide +kernel)) ?_; (refine st rfl ?_; conv => arg 3; whnf)) | (refine n_same rfl ?_; (refine st rfl ?_; conv => arg 3; whnf))))
          have e : (Led.mk d u k lim n).turn 2 1 x = (((Led.mk d u k lim n).set (k - x) 2).set (u + x) 1, .ok) := by simp only [Led.turn, h, Led.get]; rw [if_neg (by simp), if_neg (by omega)]
          rw [e]
          refine n_ret0 rfl rfl fun ids' w' hp hI' => ⟨rfl, hI'.frm, ?_⟩
          have hB := hI'.blk_at hp 0 rfl rfl rfl
          rw [w64 (n := k - x) (by omega) (by omega), w64 (n := u + x) (by omega) (by omega)] at hB
          exact hB

/-- Which kinds a turn's number names. -/
def fromTo (kind : Int) : Nat × Nat := if kind = 1 then (0, 1) else if kind = 2 then (1, 0) else if kind = 3 then (0, 2) else if kind = 4 then (2, 0) else (2, 1)
theorem fromTo_five (kind : Int) : (fromTo kind).1 = 0 ∧ (fromTo kind).2 = 1 ∨ (fromTo kind).1 = 1 ∧ (fromTo kind).2 = 0 ∨ (fromTo kind).1 = 0 ∧ (fromTo kind).2 = 2 ∨ (fromTo kind).1 = 2 ∧ (fromTo kind).2 = 0 ∨ (fromTo kind).1 = 2 ∧ (fromTo kind).2 = 1 := by
  unfold fromTo
  split
  · simp
  · split
    · simp
    · split
      · simp
      · split <;> simp

theorem rTurn_ok {b : Nat} {w : World} (s : Led) (ok : s.ok) (hb : Blk w b s.cells 79) (kind x : Int) :
    Calls Tryd.prog 43 #[.pointer (some ⟨b, 0, none⟩), .int .i64 kind, .int .i64 x] w fun e w' => e = .returned (.int .i64 (s.turn (fromTo kind).1 (fromTo kind).2 x).2.num) ∧ Frm [b] w w' ∧ Blk w' b (s.turn (fromTo kind).1 (fromTo kind).2 x).1.cells 79 := by
  have hI := refInv (N := 31) (os := []) hb
  refine calls_sm (cx 31 [] [b] w) (vals := [.ptr 0 0, .int .i64 kind, .int .i64 x]) mixed Tryd.func43 rfl rfl rfl hI rfl (st rfl ?_); conv => arg 3; whnf
  refine n_br (fun h0 => ?_) (fun h0 => ?_) <;> simp at h0 <;> (refine st rfl ?_; conv => arg 3; whnf)
  · have e : fromTo kind = (0, 1) := by simp [fromTo, h0]
    rw [e]
    refine n_updP 0 (.int .i64 (s.turn 0 1 x).2.num) (s.turn 0 1 x).1.sv rfl rfl rfl rfl rfl rfl rfl (fun _ w1 hp1 hI1 => rturn_ok s ok (hI1.blk_at hp1 0 rfl rfl rfl) x 0 1 (by simp)) ?_
    (refine st rfl ?_; conv => arg 3; whnf)
    exact n_ret0 rfl rfl fun ids' w' hp hI' => ⟨rfl, hI'.frm, hI'.blk_at hp 0 rfl rfl rfl⟩
  ·
    refine n_br (fun h1 => ?_) (fun h1 => ?_) <;> simp at h1 <;> (refine st rfl ?_; conv => arg 3; whnf)
    · have e : fromTo kind = (1, 0) := by simp [fromTo, h0, h1]
      rw [e]
      refine n_updP 0 (.int .i64 (s.turn 1 0 x).2.num) (s.turn 1 0 x).1.sv rfl rfl rfl rfl rfl rfl rfl (fun _ w1 hp1 hI1 => rturn_ok s ok (hI1.blk_at hp1 0 rfl rfl rfl) x 1 0 (by simp)) ?_
      (refine st rfl ?_; conv => arg 3; whnf)
      exact n_ret0 rfl rfl fun ids' w' hp hI' => ⟨rfl, hI'.frm, hI'.blk_at hp 0 rfl rfl rfl⟩
    ·
      refine n_br (fun h2 => ?_) (fun h2 => ?_) <;> simp at h2 <;> (refine st rfl ?_; conv => arg 3; whnf)
      · have e : fromTo kind = (0, 2) := by simp [fromTo, h0, h1, h2]
        rw [e]
        refine n_updP 0 (.int .i64 (s.turn 0 2 x).2.num) (s.turn 0 2 x).1.sv rfl rfl rfl rfl rfl rfl rfl (fun _ w1 hp1 hI1 => rturn_ok s ok (hI1.blk_at hp1 0 rfl rfl rfl) x 0 2 (by simp)) ?_
        (refine st rfl ?_; conv => arg 3; whnf)
        exact n_ret0 rfl rfl fun ids' w' hp hI' => ⟨rfl, hI'.frm, hI'.blk_at hp 0 rfl rfl rfl⟩
      ·
        refine n_br (fun h3 => ?_) (fun h3 => ?_) <;> simp at h3 <;> (refine st rfl ?_; conv => arg 3; whnf)
        · have e : fromTo kind = (2, 0) := by simp [fromTo, h0, h1, h2, h3]
          rw [e]
          refine n_updP 0 (.int .i64 (s.turn 2 0 x).2.num) (s.turn 2 0 x).1.sv rfl rfl rfl rfl rfl rfl rfl (fun _ w1 hp1 hI1 => rturn_ok s ok (hI1.blk_at hp1 0 rfl rfl rfl) x 2 0 (by simp)) ?_
          (refine st rfl ?_; conv => arg 3; whnf)
          exact n_ret0 rfl rfl fun ids' w' hp hI' => ⟨rfl, hI'.frm, hI'.blk_at hp 0 rfl rfl rfl⟩
        ·
          have e : fromTo kind = (2, 1) := by simp [fromTo, h0, h1, h2, h3]
          rw [e]
          refine n_updP 0 (.int .i64 (s.turn 2 1 x).2.num) (s.turn 2 1 x).1.sv rfl rfl rfl rfl rfl rfl rfl (fun _ w1 hp1 hI1 => rturn_ok s ok (hI1.blk_at hp1 0 rfl rfl rfl) x 2 1 (by simp)) ?_
          (refine st rfl ?_; conv => arg 3; whnf)
          exact n_ret0 rfl rfl fun ids' w' hp hI' => ⟨rfl, hI'.frm, hI'.blk_at hp 0 rfl rfl rfl⟩

theorem rSet_ok {b : Nat} {w : World} (s : Led) (ok : s.ok) (hb : Blk w b s.cells 79) (x : Int) :
    Calls Tryd.prog 47 #[.pointer (some ⟨b, 0, none⟩), .int .i64 x] w fun e w' => e = .returned (.int .i64 (s.setD x).2.num) ∧ Frm [b] w w' ∧ Blk w' b (s.setD x).1.cells 79 := by
  obtain ⟨d, u, k, lim, n⟩ := s
  obtain ⟨d0, u0, h0, sum, one, cap⟩ := ok
  dsimp only at d0 u0 h0 sum one cap
  have hI := refInv (N := 34) (os := []) hb
  have e1 : IntKind.i64.wrap (d + u) = d + u := w64 (by omega) (by omega)
  refine calls_sm (cx 34 [] [b] w) (vals := [.ptr 0 0, .int .i64 x]) mixed Tryd.func47 rfl rfl rfl hI rfl (st rfl ?_); conv => arg 3; whnf
  (repeat (first | (refine n_must rfl ?_; (refine st rfl ?_; conv => arg 3; whnf)) | (refine n_chk (drawF_ok (by decide +kernel)) ?_; (refine st rfl ?_; conv => arg 3; whnf)) | (refine n_same rfl ?_; (refine st rfl ?_; conv => arg 3; whnf))))
  refine n_br (fun h1 => ?_) (fun h1 => ?_) <;> simp at h1 <;> (refine st rfl ?_; conv => arg 3; whnf)
  · have e : (Led.mk d u k lim n).setD x = (Led.mk d u k lim n, .arg) := by simp [Led.setD, h1]
    rw [e]
    exact n_ret0 rfl rfl fun ids' w' hp hI' => ⟨rfl, hI'.frm, hI'.blk_at hp 0 rfl rfl rfl⟩
  · refine n_br (fun h2 => ?_) (fun h2 => ?_) <;> rw [e1] at h2 <;> simp at h2 <;> (refine st rfl ?_; conv => arg 3; whnf)
    · have e : (Led.mk d u k lim n).setD x = (Led.mk d u k lim n, .cap) := by simp only [Led.setD]; rw [if_neg (by omega), if_pos (by omega)]
      rw [e]
      exact n_ret0 rfl rfl fun ids' w' hp hI' => ⟨rfl, hI'.frm, hI'.blk_at hp 0 rfl rfl rfl⟩
    · (repeat (first | (refine n_must rfl ?_; (refine st rfl ?_; conv => arg 3; whnf)) | (refine n_chk (drawF_ok (by decide +kernel)) ?_; (refine st rfl ?_; conv => arg 3; whnf)) | (refine n_same rfl ?_; (refine st rfl ?_; conv => arg 3; whnf))))
      have e : (Led.mk d u k lim n).setD x = (Led.mk x (d + u - x) k lim n, .ok) := by simp only [Led.setD]; rw [if_neg (by omega), if_neg (by omega)]
      rw [e]
      refine n_ret0 rfl rfl fun ids' w' hp hI' => ⟨rfl, hI'.frm, ?_⟩
      have hB := hI'.blk_at hp 0 rfl rfl rfl
      rw [w64 (n := d + u) (by omega) (by omega), w64 (n := d + u - x) (by omega) (by omega)] at hB
      exact hB

theorem rRecap_ok {b : Nat} {w : World} (s : Led) (ok : s.ok) (hb : Blk w b s.cells 79) (x y : Int) :
    Calls Tryd.prog 48 #[.pointer (some ⟨b, 0, none⟩), .int .i64 x, .int .i64 y] w fun e w' => e = .returned (.int .i64 (s.recap x y).2.num) ∧ Frm [b] w w' ∧ Blk w' b (s.recap x y).1.cells 79 := by
  obtain ⟨d, u, k, lim, n⟩ := s
  obtain ⟨d0, u0, h0, sum, one, cap⟩ := ok
  dsimp only at d0 u0 h0 sum one cap
  have hI := refInv (N := 49) (os := []) hb
  refine calls_sm (cx 49 [] [b] w) (vals := [.ptr 0 0, .int .i64 x, .int .i64 y]) mixed Tryd.func48 rfl rfl rfl hI rfl (st rfl ?_); conv => arg 3; whnf
  refine n_br (fun h1 => ?_) (fun h1 => ?_) <;> simp at h1 <;> (refine st rfl ?_; conv => arg 3; whnf)
  · have h : capB x = false := by simp [capB]; omega
    have e : (Led.mk d u k lim n).recap x y = (Led.mk d u k lim n, .arg) := by simp [Led.recap, h]
    rw [e]
    exact n_ret0 rfl rfl fun ids' w' hp hI' => ⟨rfl, hI'.frm, hI'.blk_at hp 0 rfl rfl rfl⟩
  · refine n_br (fun h2 => ?_) (fun h2 => ?_) <;> simp at h2 <;> (refine st rfl ?_; conv => arg 3; whnf)
    · have h : capB x = false := by simp [capB]; omega
      have e : (Led.mk d u k lim n).recap x y = (Led.mk d u k lim n, .arg) := by simp [Led.recap, h]
      rw [e]
      exact n_ret0 rfl rfl fun ids' w' hp hI' => ⟨rfl, hI'.frm, hI'.blk_at hp 0 rfl rfl rfl⟩
    · have h : capB x = true := by simp [capB]; omega
      refine n_br (fun h3 => ?_) (fun h3 => ?_) <;> simp at h3 <;> (refine st rfl ?_; conv => arg 3; whnf)
      · have e : (Led.mk d u k lim n).recap x y = (Led.mk d u k lim n, .arg) := by simp [Led.recap, h, h3]
        rw [e]
        exact n_ret0 rfl rfl fun ids' w' hp hI' => ⟨rfl, hI'.frm, hI'.blk_at hp 0 rfl rfl rfl⟩
      · (repeat (first | (refine n_must rfl ?_; (refine st rfl ?_; conv => arg 3; whnf)) | (refine n_chk (drawF_ok (by decide +kernel)) ?_; (refine st rfl ?_; conv => arg 3; whnf)) | (refine n_same rfl ?_; (refine st rfl ?_; conv => arg 3; whnf))))
        have e1 : IntKind.i64.wrap (IntKind.i64.wrap (u + x) - lim) = u + x - lim := by rw [w64 (n := u + x) (by omega) (by omega), w64 (by omega) (by omega)]
        refine n_br (fun h4 => ?_) (fun h4 => ?_) <;> rw [e1] at h4 <;> simp at h4 <;> (refine st rfl ?_; conv => arg 3; whnf)
        · have e : (Led.mk d u k lim n).recap x y = (Led.mk d u k lim n, .cap) := by simp only [Led.recap]; rw [if_neg (by simp [h]), if_neg (by omega), if_pos (by omega)]
          rw [e]
          exact n_ret0 rfl rfl fun ids' w' hp hI' => ⟨rfl, hI'.frm, hI'.blk_at hp 0 rfl rfl rfl⟩
        · (repeat (first | (refine n_must rfl ?_; (refine st rfl ?_; conv => arg 3; whnf)) | (refine n_chk (drawF_ok (by decide +kernel)) ?_; (refine st rfl ?_; conv => arg 3; whnf)) | (refine n_same rfl ?_; (refine st rfl ?_; conv => arg 3; whnf))))
          have e : (Led.mk d u k lim n).recap x y = (Led.mk d (u + (x - lim)) k x y, .ok) := by simp only [Led.recap]; rw [if_neg (by simp [h]), if_neg (by omega), if_neg (by omega)]
          rw [e]
          refine n_ret0 rfl rfl fun ids' w' hp hI' => ⟨rfl, hI'.frm, ?_⟩
          have hB := hI'.blk_at hp 0 rfl rfl rfl
          rw [e1, show u + x - lim = u + (x - lim) by omega] at hB
          exact hB

theorem rHear_ok {b : Nat} {w : World} (s : Led) (ok : s.ok) (hb : Blk w b s.cells 79) (x y : Int) :
    Calls Tryd.prog 49 #[.pointer (some ⟨b, 0, none⟩), .int .i64 x, .int .i64 y] w fun e w' => e = .returned (.bool (s.hear x y).2) ∧ Frm [b] w w' ∧ Blk w' b (s.hear x y).1.cells 79 := by
  have ok' := ok
  obtain ⟨d, u, k, lim, n⟩ := s
  obtain ⟨d0, u0, h0, sum, one, cap⟩ := ok
  dsimp only at d0 u0 h0 sum one cap
  have hI := refInv (N := 35) (os := []) hb
  refine calls_sm (cx 35 [] [b] w) (vals := [.ptr 0 0, .int .i64 x, .int .i64 y]) mixed Tryd.func49 rfl rfl rfl hI rfl (st rfl ?_); conv => arg 3; whnf
  (repeat (first | (refine n_must rfl ?_; (refine st rfl ?_; conv => arg 3; whnf)) | (refine n_chk (drawF_ok (by decide +kernel)) ?_; (refine st rfl ?_; conv => arg 3; whnf)) | (refine n_same rfl ?_; (refine st rfl ?_; conv => arg 3; whnf))))
  refine n_br (fun h1 => ?_) (fun h1 => ?_) <;> simp at h1 <;> (refine st rfl ?_; conv => arg 3; whnf)
  · have h : capB x = false := by simp [capB]; omega
    have e : (Led.mk d u k lim n).hear x y = (Led.mk d u k lim n, false) := by simp [Led.hear, h]
    rw [e]
    exact n_ret0 rfl rfl fun ids' w' hp hI' => ⟨rfl, hI'.frm, hI'.blk_at hp 0 rfl rfl rfl⟩
  · refine n_br (fun h2 => ?_) (fun h2 => ?_) <;> simp at h2 <;> (refine st rfl ?_; conv => arg 3; whnf)
    · have h : capB x = false := by simp [capB]; omega
      have e : (Led.mk d u k lim n).hear x y = (Led.mk d u k lim n, false) := by simp [Led.hear, h]
      rw [e]
      exact n_ret0 rfl rfl fun ids' w' hp hI' => ⟨rfl, hI'.frm, hI'.blk_at hp 0 rfl rfl rfl⟩
    · have h : capB x = true := by simp [capB]; omega
      refine n_br (fun h3 => ?_) (fun h3 => ?_) <;> simp at h3 <;> (refine st rfl ?_; conv => arg 3; whnf)
      · have e : (Led.mk d u k lim n).hear x y = (Led.mk d u k lim n, false) := by simp [Led.hear, h, h3]
        rw [e]
        exact n_ret0 rfl rfl fun ids' w' hp hI' => ⟨rfl, hI'.frm, hI'.blk_at hp 0 rfl rfl rfl⟩
      · refine n_sameP (.int .i64 (d + u + k)) rfl rfl rfl (fun _ w1 hp1 hI1 => rall_ok (Led.mk d u k lim n) ok' (hI1.blk_at hp1 0 rfl rfl rfl)) ?_
        (refine st rfl ?_; conv => arg 3; whnf)
        refine n_br (fun h4 => ?_) (fun h4 => ?_) <;> simp at h4 <;> (refine st rfl ?_; conv => arg 3; whnf)
        · have e : (Led.mk d u k lim n).hear x y = (Led.mk d u k lim n, false) := by simp only [Led.hear]; rw [if_neg (by simp [h]), if_neg (by omega), if_pos (by omega)]
          rw [e]
          exact n_ret0 rfl rfl fun ids' w' hp hI' => ⟨rfl, hI'.frm, hI'.blk_at hp 0 rfl rfl rfl⟩
        · have e : (Led.mk d u k lim n).hear x y = (Led.mk d u k x y, true) := by simp only [Led.hear]; rw [if_neg (by simp [h]), if_neg (by omega), if_neg (by omega)]
          rw [e]
          exact n_ret0 rfl rfl fun ids' w' hp hI' => ⟨rfl, hI'.frm, hI'.blk_at hp 0 rfl rfl rfl⟩
end Go.Proofs.YthinmbcedgoglaaDoor
