/- The law's small functions, and the law of turning back. -/
import Derived.Test.YthinmbcedgoglaaDoorNew
import Derived.Test.YthinmbcedgoglaaDoorLed
set_option maxRecDepth 100000
set_option maxHeartbeats 2000000
set_option linter.unusedSimpArgs false
set_option linter.unusedVariables false
namespace Go.Proofs.YthinmbcedgoglaaDoor
open Go.RowKit

theorem same_ok (x y x' y' : Int) (w : World) : Calls Tryd.prog 16 #[.agg #[.int .i64 x, .int .i64 y], .agg #[.int .i64 x', .int .i64 y']] w fun e w' => e = .returned (.bool (decide (x = x' ∧ y = y'))) ∧ Frm [] w w' := by
  have hI := Inv.nil (P := Tryd.prog) (N := 17) (S := []) (os := []) w
  refine calls_sm (cx 17 [] [] w) (vals := [.agg [.int .i64 x, .int .i64 y], .agg [.int .i64 x', .int .i64 y']]) mixed Tryd.func16 rfl rfl rfl hI rfl (st rfl ?_); conv => arg 3; whnf
  (repeat (first | (refine n_must rfl ?_; (refine st rfl ?_; conv => arg 3; whnf)) | (refine n_chk (drawF_ok (by decide +kernel)) ?_; (refine st rfl ?_; conv => arg 3; whnf)) | (refine n_same rfl ?_; (refine st rfl ?_; conv => arg 3; whnf))))
  refine n_br (fun h1 => ?_) (fun h1 => ?_) <;> simp at h1 <;> (refine st rfl ?_; conv => arg 3; whnf)
  · refine n_ret0 rfl rfl fun ids' w' hp hI' => ⟨ret_bool ?_, hI'.frm⟩
    rw [Bool.eq_iff_iff]; simp [h1]
  · refine n_ret0 rfl rfl fun ids' w' hp hI' => ⟨ret_bool ?_, hI'.frm⟩
    rw [Bool.eq_iff_iff]; simp [h1]

def withinF (x lo hi : Int) : Int := lo + (if x < 0 then -(x + 1) else x).tmod (hi - lo + 1)
theorem within_le {x lo hi : Int} (h : lo ≤ hi) : lo ≤ withinF x lo hi ∧ withinF x lo hi ≤ hi := by
  unfold withinF
  generalize hy : (if x < 0 then -(x + 1) else x) = y
  have hy0 : 0 ≤ y := by rw [← hy]; split <;> omega
  have h1 : y.tmod (hi - lo + 1) = y % (hi - lo + 1) := Int.tmod_eq_emod_of_nonneg hy0
  have h2 := Int.emod_nonneg y (show hi - lo + 1 ≠ 0 by omega)
  have h3 := Int.emod_lt_of_pos y (show 0 < hi - lo + 1 by omega)
  rw [h1]; omega
theorem within_ok (x lo hi : Int) (hx : -9223372036854775808 ≤ x ∧ x ≤ 9223372036854775807) (hlo : 0 ≤ lo) (hle : lo ≤ hi) (hhi : hi ≤ 1099511627776) (w : World) :
    Calls Tryd.prog 11 #[.int .i64 x, .int .i64 lo, .int .i64 hi] w fun e w' => e = .returned (.int .i64 (withinF x lo hi)) ∧ Frm [] w w' := by
  have hI := Inv.nil (P := Tryd.prog) (N := 20) (S := []) (os := []) w
  have e1 : IntKind.i64.wrap (IntKind.i64.wrap (hi - lo) + 1) = hi - lo + 1 := by rw [w64 (n := hi - lo) (by omega) (by omega), w64 (by omega) (by omega)]
  have hb := within_le (x := x) hle
  refine calls_sm (cx 20 [] [] w) (vals := [.int .i64 x, .int .i64 lo, .int .i64 hi]) mixed Tryd.func11 rfl rfl rfl hI rfl (st rfl ?_); conv => arg 3; whnf
  (repeat (first | (refine n_must rfl ?_; (refine st rfl ?_; conv => arg 3; whnf)) | (refine n_chk (drawF_ok (by decide +kernel)) ?_; (refine st rfl ?_; conv => arg 3; whnf)) | (refine n_same rfl ?_; (refine st rfl ?_; conv => arg 3; whnf))))
  refine n_br (fun h1 => ?_) (fun h1 => ?_) <;> simp at h1 <;> (refine st rfl ?_; conv => arg 3; whnf)
  · have e2 : IntKind.i64.wrap (0 - IntKind.i64.wrap (x + 1)) = -(x + 1) := by rw [w64 (n := x + 1) (by omega) (by omega), w64 (by omega) (by omega)]; omega
    refine n_must (by simp only [e1]; simp; omega) ?_
    (refine st rfl ?_; conv => arg 3; whnf)
    (repeat (first | (refine n_must rfl ?_; (refine st rfl ?_; conv => arg 3; whnf)) | (refine n_chk (drawF_ok (by decide +kernel)) ?_; (refine st rfl ?_; conv => arg 3; whnf)) | (refine n_same rfl ?_; (refine st rfl ?_; conv => arg 3; whnf))))
    refine n_ret0 rfl rfl fun ids' w' hp hI' => ⟨ret_int ?_, hI'.frm⟩
    have : withinF x lo hi = lo + (-(x + 1)).tmod (hi - lo + 1) := by unfold withinF; rw [if_pos h1]
    rw [e1, e2, ← this]; exact w64 (by omega) (by omega)
  · refine n_must (by simp only [e1]; simp; omega) ?_
    (refine st rfl ?_; conv => arg 3; whnf)
    (repeat (first | (refine n_must rfl ?_; (refine st rfl ?_; conv => arg 3; whnf)) | (refine n_chk (drawF_ok (by decide +kernel)) ?_; (refine st rfl ?_; conv => arg 3; whnf)) | (refine n_same rfl ?_; (refine st rfl ?_; conv => arg 3; whnf))))
    refine n_ret0 rfl rfl fun ids' w' hp hI' => ⟨ret_int ?_, hI'.frm⟩
    have : withinF x lo hi = lo + x.tmod (hi - lo + 1) := by unfold withinF; rw [if_neg (by omega)]
    rw [e1, ← this]; exact w64 (by omega) (by omega)

def Led.all (s : Led) : Int := s.d + s.u + s.h
theorem sum_ok {b : Nat} {w : World} (s : Led) (ok : s.ok) (hb : Blk w b s.cells 62) :
    Calls Tryd.prog 25 #[.pointer (some ⟨b, 0, none⟩)] w fun e w' => e = .returned (.int .i64 s.all) ∧ Frm [] w w' := by
  obtain ⟨d0, u0, h0, sum, one, cap⟩ := ok
  have hI : Inv (cx 13 [] [] w) w [b] [⟨62, s.sv, false⟩] := (Inv.nil w).cons (by simp) rfl hb (by simp)
  refine calls_sm (cx 13 [] [] w) (vals := [.ptr 0 0]) mixed Tryd.func25 rfl rfl rfl hI rfl (st rfl ?_); conv => arg 3; whnf
  (repeat (first | (refine n_must rfl ?_; (refine st rfl ?_; conv => arg 3; whnf)) | (refine n_chk (drawF_ok (by decide +kernel)) ?_; (refine st rfl ?_; conv => arg 3; whnf)) | (refine n_same rfl ?_; (refine st rfl ?_; conv => arg 3; whnf))))
  refine n_sameP (.agg [.int .i64 s.d, .int .i64 s.u]) rfl rfl rfl (fun _ w1 hp1 hI1 => Rights_ok s (hI1.blk_at hp1 0 rfl rfl rfl)) ?_
  (refine st rfl ?_; conv => arg 3; whnf)
  (repeat (first | (refine n_must rfl ?_; (refine st rfl ?_; conv => arg 3; whnf)) | (refine n_chk (drawF_ok (by decide +kernel)) ?_; (refine st rfl ?_; conv => arg 3; whnf)) | (refine n_same rfl ?_; (refine st rfl ?_; conv => arg 3; whnf))))
  refine n_sameP (.agg [.int .i64 s.d, .int .i64 s.u]) rfl rfl rfl (fun _ w1 hp1 hI1 => Rights_ok s (hI1.blk_at hp1 0 rfl rfl rfl)) ?_
  (refine st rfl ?_; conv => arg 3; whnf)
  (repeat (first | (refine n_must rfl ?_; (refine st rfl ?_; conv => arg 3; whnf)) | (refine n_chk (drawF_ok (by decide +kernel)) ?_; (refine st rfl ?_; conv => arg 3; whnf)) | (refine n_same rfl ?_; (refine st rfl ?_; conv => arg 3; whnf))))
  refine n_sameP (.int .i64 s.h) rfl rfl rfl (fun _ w1 hp1 hI1 => Held_ok s (hI1.blk_at hp1 0 rfl rfl rfl)) ?_
  (refine st rfl ?_; conv => arg 3; whnf)
  (repeat (first | (refine n_must rfl ?_; (refine st rfl ?_; conv => arg 3; whnf)) | (refine n_chk (drawF_ok (by decide +kernel)) ?_; (refine st rfl ?_; conv => arg 3; whnf)) | (refine n_same rfl ?_; (refine st rfl ?_; conv => arg 3; whnf))))
  refine n_ret0 rfl rfl fun ids' w' hp hI' => ⟨ret_int ?_, hI'.frm⟩
  show _ = s.all
  rw [w64 (n := s.d + s.u) (by omega) (by omega)]; exact w64 (n := s.all) (by unfold Led.all; omega) (by unfold Led.all; omega)
/-! ### The document's New; both -/
theorem refInv {b N : Nat} {os : List (Nat × List (Nat × List Nat))} {w : World} {s : Led} (hb : Blk w b s.cells 79) : Inv (cx N os [b] w) w [b] [⟨79, s.sv, true⟩] := (Inv.nil w).cons (by simp) rfl hb (by simp)

theorem rNew_ok (x : Int) (w : World) :
    Calls Tryd.prog 41 #[.int .i64 x] w fun e w' => (capB x = false ∧ e = .returned (.tuple #[.pointer none, .int .i64 1]) ∧ Frm [] w w') ∨
      (capB x = true ∧ ∃ b, w.heap.size ≤ b ∧ e = .returned (.tuple #[.pointer (some ⟨b, 0, none⟩), .int .i64 0]) ∧ Frm [] w w' ∧ Blk w' b (Led.mk 0 0 0 x 0).cells 79) := by
  have hI := Inv.nil (P := Tryd.prog) (N := 13) (S := []) (os := []) w
  refine calls_sm (cx 13 [] [] w) (vals := [.int .i64 x]) mixed Tryd.func41 rfl rfl rfl hI rfl (st rfl ?_); conv => arg 3; whnf
  refine n_br (fun h1 => ?_) (fun h1 => ?_) <;> simp at h1 <;> (refine st rfl ?_; conv => arg 3; whnf)
  · exact n_ret0 rfl rfl fun ids' w' hp hI' => .inl ⟨by simp [capB]; omega, rfl, hI'.frm⟩
  · refine n_br (fun h2 => ?_) (fun h2 => ?_) <;> simp at h2 <;> (refine st rfl ?_; conv => arg 3; whnf)
    · exact n_ret0 rfl rfl fun ids' w' hp hI' => .inl ⟨by simp [capB]; omega, rfl, hI'.frm⟩
    · refine n_ret rfl fun ids' w' hp hI' => ?_
      obtain ⟨b, rfl⟩ := ext1 hp hI'.len
      refine ⟨_, rfl, .inr ⟨by simp [capB]; omega, b, ?_, rfl, hI'.frm, hI'.blk_at (List.prefix_refl _) 0 rfl rfl rfl⟩⟩
      rcases hI'.owned 0 _ b rfl rfl rfl with h | h
      · cases h
      · exact h

theorem New_1 (x : Int) (hx : capB x = true) (w : World) :
    Calls Tryd.prog 12 #[.int .i64 x] w fun e w' => ∃ b, w.heap.size ≤ b ∧ e = .returned (.tuple #[.pointer (some ⟨b, 0, none⟩), .int .i64 0]) ∧ Frm [] w w' ∧ Blk w' b (Led.mk 0 0 0 x 0).cells 62 :=
  (New_ok x w).mono fun _ _ h => by
    rcases h with ⟨h, _⟩ | ⟨_, h⟩
    · rw [hx] at h; cases h
    · exact h
theorem New_0 (x : Int) (hx : capB x = false) (w : World) :
    Calls Tryd.prog 12 #[.int .i64 x] w fun e w' => e = .returned (.tuple #[.pointer none, .int .i64 1]) ∧ Frm [] w w' :=
  (New_ok x w).mono fun _ _ h => by
    rcases h with ⟨_, h⟩ | ⟨h, _⟩
    · exact h
    · rw [hx] at h; cases h
theorem rNew_1 (x : Int) (hx : capB x = true) (w : World) :
    Calls Tryd.prog 41 #[.int .i64 x] w fun e w' => ∃ b, w.heap.size ≤ b ∧ e = .returned (.tuple #[.pointer (some ⟨b, 0, none⟩), .int .i64 0]) ∧ Frm [] w w' ∧ Blk w' b (Led.mk 0 0 0 x 0).cells 79 :=
  (rNew_ok x w).mono fun _ _ h => by
    rcases h with ⟨h, _⟩ | ⟨_, h⟩
    · rw [hx] at h; cases h
    · exact h
theorem rNew_0 (x : Int) (hx : capB x = false) (w : World) :
    Calls Tryd.prog 41 #[.int .i64 x] w fun e w' => e = .returned (.tuple #[.pointer none, .int .i64 1]) ∧ Frm [] w w' :=
  (rNew_ok x w).mono fun _ _ h => by
    rcases h with ⟨_, h⟩ | ⟨h, _⟩
    · exact h
    · rw [hx] at h; cases h

/-- A pair: the program's ledger and the document's, in one state. -/
structure PairAt (w : World) (p b1 b2 : Nat) (s : Led) : Prop where
  n12 : b1 ≠ b2
  n1p : b1 ≠ p
  n2p : b2 ≠ p
  l : Blk w b1 s.cells 62
  r : Blk w b2 s.cells 79
  p : Blk w p #[.pointer (some ⟨b1, 0, none⟩), .pointer (some ⟨b2, 0, none⟩)] 59
abbrev pairMem (s : Led) : Mem := [⟨62, s.sv, true⟩, ⟨79, s.sv, true⟩, ⟨59, [.ptr 0 0, .ptr 1 0], false⟩]
theorem pairInv {p b1 b2 N : Nat} {os : List (Nat × List (Nat × List Nat))} {w : World} {s : Led} (h : PairAt w p b1 b2 s) : Inv (cx N os [b1, b2] w) w [b1, b2, p] (pairMem s) :=
  (((Inv.nil w).cons (by simp) rfl h.l (by simp)).cons (by simp [Ne.symm h.n12]) rfl h.r (by simp)).cons (by simp [Ne.symm h.n1p, Ne.symm h.n2p]) rfl h.p (by simp)

abbrev pairAt (i : Nat) (s : Led) : Mem := [⟨62, s.sv, true⟩, ⟨79, s.sv, true⟩, ⟨59, [.ptr i 0, .ptr (i + 1) 0], false⟩]
theorem pair_blk {w : World} {p b1 b2 k : Nat} {s : Led} (ids : List Nat) (hl : k = ids.length) (hP : PairAt w p b1 b2 s) : ∀ i b n, nth (pairAt k s) i = some b → [b1, b2, p][i]? = some n → ∃ l, denL (ids ++ [b1, b2, p]) b.cells = some l ∧ Blk w n l.toArray b.ty := by
  subst hl
  intro i b n h1 h2
  match i, h1, h2 with
  | 0, h1, h2 => simp [nth] at h1 h2; subst h1; subst h2; exact ⟨_, rfl, hP.l⟩
  | 1, h1, h2 => simp [nth] at h1 h2; subst h1; subst h2; exact ⟨_, rfl, hP.r⟩
  | 2, h1, h2 =>
    simp [nth] at h1 h2; subst h1; subst h2
    exact ⟨[.pointer (some ⟨b1, 0, none⟩), .pointer (some ⟨b2, 0, none⟩)], by simp [denL, den], hP.p⟩
  | i + 3, h1, h2 => simp [nth] at h1

theorem made_0 (x : Int) (hx : capB x = false) (w : World) :
    Calls Tryd.prog 31 #[.int .i64 x] w fun e w' => e = .returned (.tuple #[.pointer none, .bool true]) ∧ Frm [] w w' := by
  have hI := Inv.nil (P := Tryd.prog) (N := 38) (S := []) (os := []) w
  refine calls_sm (cx 38 [] [] w) (vals := [.int .i64 x]) mixed Tryd.func31 rfl rfl rfl hI rfl (st rfl ?_); conv => arg 3; whnf
  (repeat (first | (refine n_must rfl ?_; (refine st rfl ?_; conv => arg 3; whnf)) | (refine n_chk (drawF_ok (by decide +kernel)) ?_; (refine st rfl ?_; conv => arg 3; whnf)) | (refine n_same rfl ?_; (refine st rfl ?_; conv => arg 3; whnf))))
  refine n_sameP (.tup [.nilp, .int .i64 1]) rfl rfl rfl (fun _ w1 _ _ => New_0 x hx w1) ?_
  (refine st rfl ?_; conv => arg 3; whnf)
  (repeat (first | (refine n_must rfl ?_; (refine st rfl ?_; conv => arg 3; whnf)) | (refine n_chk (drawF_ok (by decide +kernel)) ?_; (refine st rfl ?_; conv => arg 3; whnf)) | (refine n_same rfl ?_; (refine st rfl ?_; conv => arg 3; whnf))))
  refine n_sameP (.tup [.nilp, .int .i64 1]) rfl rfl rfl (fun _ w1 _ _ => rNew_0 x hx w1) ?_
  (refine st rfl ?_; conv => arg 3; whnf)
  (repeat (first | (refine n_must rfl ?_; (refine st rfl ?_; conv => arg 3; whnf)) | (refine n_chk (drawF_ok (by decide +kernel)) ?_; (refine st rfl ?_; conv => arg 3; whnf)) | (refine n_same rfl ?_; (refine st rfl ?_; conv => arg 3; whnf))))
  refine n_br (fun h => ?_) (fun h => ?_) <;> simp at h <;> (refine st rfl ?_; conv => arg 3; whnf)
  (repeat (first | (refine n_must rfl ?_; (refine st rfl ?_; conv => arg 3; whnf)) | (refine n_chk (drawF_ok (by decide +kernel)) ?_; (refine st rfl ?_; conv => arg 3; whnf)) | (refine n_same rfl ?_; (refine st rfl ?_; conv => arg 3; whnf))))
  exact n_ret0 rfl rfl fun ids' w' hp hI' => ⟨rfl, hI'.frm⟩
theorem made_1 (x : Int) (hx : capB x = true) (w : World) :
    Calls Tryd.prog 31 #[.int .i64 x] w fun e w' => ∃ p b1 b2, w.heap.size ≤ b1 ∧ w.heap.size ≤ b2 ∧ w.heap.size ≤ p ∧ e = .returned (.tuple #[.pointer (some ⟨p, 0, none⟩), .bool true]) ∧ Frm [] w w' ∧ PairAt w' p b1 b2 (Led.mk 0 0 0 x 0) := by
  have hI := Inv.nil (P := Tryd.prog) (N := 38) (S := []) (os := []) w
  refine calls_sm (cx 38 [] [] w) (vals := [.int .i64 x]) mixed Tryd.func31 rfl rfl rfl hI rfl (st rfl ?_); conv => arg 3; whnf
  (repeat (first | (refine n_must rfl ?_; (refine st rfl ?_; conv => arg 3; whnf)) | (refine n_chk (drawF_ok (by decide +kernel)) ?_; (refine st rfl ?_; conv => arg 3; whnf)) | (refine n_same rfl ?_; (refine st rfl ?_; conv => arg 3; whnf))))
  refine n_new (.tup [.ptr 0 0, .int .i64 0]) ⟨62, (Led.mk 0 0 0 x 0).sv, true⟩ _ _ rfl rfl rfl (fun _ => rfl) (fun _ => rfl) (fun w1 _ => New_1 x hx w1) fun b1 hb1 _ => ?_
  (refine st rfl ?_; conv => arg 3; whnf)
  (repeat (first | (refine n_must rfl ?_; (refine st rfl ?_; conv => arg 3; whnf)) | (refine n_chk (drawF_ok (by decide +kernel)) ?_; (refine st rfl ?_; conv => arg 3; whnf)) | (refine n_same rfl ?_; (refine st rfl ?_; conv => arg 3; whnf))))
  refine n_new (.tup [.ptr 1 0, .int .i64 0]) ⟨79, (Led.mk 0 0 0 x 0).sv, true⟩ _ _ rfl rfl rfl (fun _ => rfl) (fun _ => rfl) (fun w1 _ => rNew_1 x hx w1) fun b2 hb2 hne => ?_
  (refine st rfl ?_; conv => arg 3; whnf)
  (repeat (first | (refine n_must rfl ?_; (refine st rfl ?_; conv => arg 3; whnf)) | (refine n_chk (drawF_ok (by decide +kernel)) ?_; (refine st rfl ?_; conv => arg 3; whnf)) | (refine n_same rfl ?_; (refine st rfl ?_; conv => arg 3; whnf))))
  refine n_br (fun h => ?_) (fun h => ?_) <;> simp at h <;> (refine st rfl ?_; conv => arg 3; whnf)
  (repeat (first | (refine n_must rfl ?_; (refine st rfl ?_; conv => arg 3; whnf)) | (refine n_chk (drawF_ok (by decide +kernel)) ?_; (refine st rfl ?_; conv => arg 3; whnf)) | (refine n_same rfl ?_; (refine st rfl ?_; conv => arg 3; whnf))))
  refine n_ret rfl fun ids' w' hp hI' => ?_
  obtain ⟨p, rfl⟩ := ext1 hp hI'.len
  have h0 := hI'.blk_at (List.prefix_refl _) 0 rfl rfl rfl
  have h1 := hI'.blk_at (List.prefix_refl _) 1 rfl rfl rfl
  have h2 := hI'.blk_at (List.prefix_refl _) 2 rfl rfl rfl
  have hp2 : w.heap.size ≤ p := by
    rcases hI'.owned 2 _ p rfl rfl rfl with h | h
    · cases h
    · exact h
  refine ⟨_, rfl, p, b1, b2, hb1, hb2, hp2, ?_, hI'.frm, ?_⟩
  · rfl
  · exact ⟨hne 0 _ _ rfl rfl rfl, hI'.ne 0 2 rfl rfl rfl rfl rfl rfl rfl, hI'.ne 1 2 rfl rfl rfl rfl rfl rfl rfl, h0, h1, h2⟩
end Go.Proofs.YthinmbcedgoglaaDoor
