/- The ledger's rights as plain numbers, and what each call does to them. -/
import Derived.Test.YthinmbcedgoglaaDoorMp
import Derived.Test.YthinmbcedgoglaaDoorErr
set_option maxRecDepth 100000
set_option linter.unusedSimpArgs false
set_option linter.unusedVariables false
set_option maxHeartbeats 2000000
namespace Go.Proofs.YthinmbcedgoglaaDoor
open Go.RowKit

structure Led where
  d : Int
  u : Int
  h : Int
  lim : Int
  n : Int
abbrev Led.cells (s : Led) : Array Value := #[.int .i64 s.d, .int .i64 s.u, .int .i64 s.h, .int .i64 s.lim, .int .i64 s.n]
abbrev Led.sv (s : Led) : List SV := [.int .i64 s.d, .int .i64 s.u, .int .i64 s.h, .int .i64 s.lim, .int .i64 s.n]
structure Led.ok (s : Led) : Prop where
  d0 : 0 ≤ s.d
  u0 : 0 ≤ s.u
  h0 : 0 ≤ s.h
  sum : s.d + s.u + s.h ≤ s.lim
  one : 1 ≤ s.lim
  cap : s.lim ≤ 1099511627776

inductive LErr where
  | ok | arg | rights | cap
def LErr.num : LErr → Int
  | .ok => 0 | .arg => 1 | .rights => 60 | .cap => 61
def LErr.val (a0 a1 a2 : Addr) : LErr → Value
  | .ok => .nilIface
  | .arg => .iface 95 (.pointer (some a0))
  | .rights => .iface 95 (.pointer (some a1))
  | .cap => .iface 95 (.pointer (some a2))

theorem told_ok {b0 : Nat} {w : World} {a0 a1 a2 : Addr} (h : Sents b0 w a0 a1 a2) (x : LErr) :
    Calls Tryd.prog 33 #[x.val a0 a1 a2] w fun e w' => e = .returned (.int .i64 x.num) ∧ Frm [] w w' := by
  have fin : ∀ {e : Ending} {w' : World} {v : Value}, e = .returned v ∧ w' = w → e = .returned v ∧ Frm [] w w' := fun ⟨h1, h2⟩ => ⟨h1, h2 ▸ Frm.refl _ _⟩
  cases x
  · exact (told_nil h).mono fun _ _ => fin
  · exact (told_arg h).mono fun _ _ => fin
  · exact (told_rights h).mono fun _ _ => fin
  · exact (told_cap h).mono fun _ _ => fin

theorem Sents.frm {b0 : Nat} {w w' : World} {a0 a1 a2 : Addr} (h : Sents b0 w a0 a1 a2) {S : List Nat} (hf : Frm S w w') (hS : ∀ x ∈ S, b0 ≤ x) (hB : b0 ≤ w.heap.size) : Sents b0 w' a0 a1 a2 :=
  h.below (hf.below hB hS)

theorem mixed : Tryd.prog.follows .mixedOrders = true := by kernel_rfl
noncomputable abbrev cx (N : Nat) (os : List (Nat × List (Nat × List Nat))) (S : List Nat) (w : World) : Ctx := { P := Tryd.prog, N, os, S, w0 := w }
theorem aggErr : aggB Tryd.prog 65 = some false := by kernel_rfl

theorem ledInv {b N : Nat} {os : List (Nat × List (Nat × List Nat))} {w : World} {s : Led} (hb : Blk w b s.cells 62) : Inv (cx N os [b] w) w [b] [⟨62, s.sv, true⟩] := (Inv.nil w).cons (by simp) rfl hb (by simp)

/-! ### caps -/
def capB (n : Int) : Bool := decide (1 ≤ n ∧ n ≤ 1099511627776)
theorem caps_ok (n : Int) (w : World) : Calls Tryd.prog 32 #[.int .i64 n] w fun e w' => e = .returned (.bool (capB n)) ∧ Frm [] w w' := by
  have hI := Inv.nil (P := Tryd.prog) (N := 8) (S := []) (os := []) w
  refine calls_sm (cx 8 [] [] w) (vals := [.int .i64 n]) mixed Tryd.func32 rfl rfl rfl hI rfl (st rfl ?_); conv => arg 3; whnf
  refine n_ret0 rfl rfl fun ids' w' hp hI' => ⟨ret_bool ?_, hI'.frm⟩
  unfold capB
  rw [Bool.eq_iff_iff]
  simp
  omega

/-! ### in, In -/
def Led.in_ (s : Led) (x y : Int) : Led × LErr :=
  if min x y < 0 then (s, .arg) else if s.lim - s.d - s.u - s.h < max x y then (s, .cap) else if s.lim - s.d - s.u - s.h < x + y then (s, .cap) else ({ s with d := s.d + x, u := s.u + y }, .ok)

theorem in_ok {b0 b : Nat} {w : World} {a0 a1 a2 : Addr} (hs : Sents b0 w a0 a1 a2) (hb0 : b0 ≤ b) (hB : b0 ≤ w.heap.size) (s : Led) (ok : s.ok) (hb : Blk w b s.cells 62) (x y : Int) :
    Calls Tryd.prog 34 #[.pointer (some ⟨b, 0, none⟩), .agg #[.int .i64 x, .int .i64 y]] w fun e w' => e = .returned ((s.in_ x y).2.val a0 a1 a2) ∧ Frm [b] w w' ∧ Blk w' b (s.in_ x y).1.cells 62 := by
  obtain ⟨d, u, k, lim, n⟩ := s
  obtain ⟨d0, u0, h0, sum, one, cap⟩ := ok
  dsimp only at d0 u0 h0 sum one cap
  have hI := ledInv (N := 67) (os := []) hb
  have e1 : IntKind.i64.wrap (IntKind.i64.wrap (IntKind.i64.wrap (lim - d) - u) - k) = lim - d - u - k := by rw [w64 (n := lim - d) (by omega) (by omega), w64 (n := lim - d - u) (by omega) (by omega), w64 (by omega) (by omega)]
  refine calls_sm (cx 67 [] [b] w) (vals := [.ptr 0 0, .agg [.int .i64 x, .int .i64 y]]) mixed Tryd.func34 rfl rfl rfl hI rfl (st rfl ?_); conv => arg 3; whnf
  refine n_br (fun h1 => ?_) (fun h1 => ?_) <;> simp at h1 <;> (refine st rfl ?_; conv => arg 3; whnf)
  · refine n_ld (.raw _) rfl rfl (fun w' hf => load_cell aggErr ((hs.frm hf (by simpa using hb0) hB).g0)) ?_
    (refine st rfl ?_; conv => arg 3; whnf)
    have e : (Led.mk d u k lim n).in_ x y = (Led.mk d u k lim n, .arg) := by simp only [Led.in_]; rw [if_pos (by omega)]
    rw [e]
    exact n_ret0 rfl rfl fun ids' w' hp hI' => ⟨rfl, hI'.frm, hI'.blk_at hp 0 rfl rfl rfl⟩
  · refine n_chk (drawF_ok (by decide +kernel)) ?_
    (refine st rfl ?_; conv => arg 3; whnf)
    refine n_br (fun h2 => ?_) (fun h2 => ?_) <;> rw [e1] at h2 <;> simp only [decide_eq_true_eq, decide_eq_false_iff_not] at h2 <;> (refine st rfl ?_; conv => arg 3; whnf)
    · refine n_ld (.raw _) rfl rfl (fun w' hf => load_cell aggErr ((hs.frm hf (by simpa using hb0) hB).g2)) ?_
      (refine st rfl ?_; conv => arg 3; whnf)
      have e : (Led.mk d u k lim n).in_ x y = (Led.mk d u k lim n, .cap) := by simp only [Led.in_]; rw [if_neg (by omega), if_pos (by omega)]
      rw [e]
      exact n_ret0 rfl rfl fun ids' w' hp hI' => ⟨rfl, hI'.frm, hI'.blk_at hp 0 rfl rfl rfl⟩
    · refine n_br (fun h3 => ?_) (fun h3 => ?_) <;> rw [e1, w64 (n := x + y) (by omega) (by omega)] at h3 <;> simp only [decide_eq_true_eq, decide_eq_false_iff_not] at h3 <;> (refine st rfl ?_; conv => arg 3; whnf)
      · refine n_ld (.raw _) rfl rfl (fun w' hf => load_cell aggErr ((hs.frm hf (by simpa using hb0) hB).g2)) ?_
        (refine st rfl ?_; conv => arg 3; whnf)
        have e : (Led.mk d u k lim n).in_ x y = (Led.mk d u k lim n, .cap) := by simp only [Led.in_]; rw [if_neg (by omega), if_neg (by omega), if_pos (by omega)]
        rw [e]
        exact n_ret0 rfl rfl fun ids' w' hp hI' => ⟨rfl, hI'.frm, hI'.blk_at hp 0 rfl rfl rfl⟩
      · refine n_chk (drawF_ok (by decide +kernel)) ?_
        (refine st rfl ?_; conv => arg 3; whnf)
        refine n_chk (drawF_ok (by decide +kernel)) ?_
        (refine st rfl ?_; conv => arg 3; whnf)
        have e : (Led.mk d u k lim n).in_ x y = (Led.mk (d + x) (u + y) k lim n, .ok) := by simp only [Led.in_]; rw [if_neg (by omega), if_neg (by omega), if_neg (by omega)]
        rw [e]
        refine n_ret0 rfl rfl fun ids' w' hp hI' => ⟨rfl, hI'.frm, ?_⟩
        have hB := hI'.blk_at hp 0 rfl rfl rfl
        rw [w64 (n := d + x) (by omega) (by omega), w64 (n := u + y) (by omega) (by omega)] at hB
        exact hB

/-! ### out, Out -/
def Led.out (s : Led) (x y : Int) : Led × LErr :=
  if min x y < 0 then (s, .arg) else if s.d < x then (s, .rights) else if s.u < y then (s, .rights) else ({ s with d := s.d - x, u := s.u - y }, .ok)

theorem out_ok {b0 b : Nat} {w : World} {a0 a1 a2 : Addr} (hs : Sents b0 w a0 a1 a2) (hb0 : b0 ≤ b) (hB : b0 ≤ w.heap.size) (s : Led) (ok : s.ok) (hb : Blk w b s.cells 62) (x y : Int) :
    Calls Tryd.prog 36 #[.pointer (some ⟨b, 0, none⟩), .agg #[.int .i64 x, .int .i64 y]] w fun e w' => e = .returned ((s.out x y).2.val a0 a1 a2) ∧ Frm [b] w w' ∧ Blk w' b (s.out x y).1.cells 62 := by
  obtain ⟨d, u, k, lim, n⟩ := s
  obtain ⟨d0, u0, h0, sum, one, cap⟩ := ok
  dsimp only at d0 u0 h0 sum one cap
  have hI := ledInv (N := 47) (os := []) hb
  refine calls_sm (cx 47 [] [b] w) (vals := [.ptr 0 0, .agg [.int .i64 x, .int .i64 y]]) mixed Tryd.func36 rfl rfl rfl hI rfl (st rfl ?_); conv => arg 3; whnf
  refine n_br (fun h1 => ?_) (fun h1 => ?_) <;> simp at h1 <;> (refine st rfl ?_; conv => arg 3; whnf)
  · refine n_ld (.raw _) rfl rfl (fun w' hf => load_cell aggErr ((hs.frm hf (by simpa using hb0) hB).g0)) ?_
    (refine st rfl ?_; conv => arg 3; whnf)
    have e : (Led.mk d u k lim n).out x y = (Led.mk d u k lim n, .arg) := by simp only [Led.out]; rw [if_pos (by omega)]
    rw [e]
    exact n_ret0 rfl rfl fun ids' w' hp hI' => ⟨rfl, hI'.frm, hI'.blk_at hp 0 rfl rfl rfl⟩
  · refine n_chk (drawF_ok (by decide +kernel)) ?_
    (refine st rfl ?_; conv => arg 3; whnf)
    refine n_br (fun h2 => ?_) (fun h2 => ?_) <;> simp at h2 <;> (refine st rfl ?_; conv => arg 3; whnf)
    · refine n_ld (.raw _) rfl rfl (fun w' hf => load_cell aggErr ((hs.frm hf (by simpa using hb0) hB).g1)) ?_
      (refine st rfl ?_; conv => arg 3; whnf)
      have e : (Led.mk d u k lim n).out x y = (Led.mk d u k lim n, .rights) := by simp only [Led.out]; rw [if_neg (by omega), if_pos (by omega)]
      rw [e]
      exact n_ret0 rfl rfl fun ids' w' hp hI' => ⟨rfl, hI'.frm, hI'.blk_at hp 0 rfl rfl rfl⟩
    · refine n_br (fun h3 => ?_) (fun h3 => ?_) <;> simp at h3 <;> (refine st rfl ?_; conv => arg 3; whnf)
      · refine n_ld (.raw _) rfl rfl (fun w' hf => load_cell aggErr ((hs.frm hf (by simpa using hb0) hB).g1)) ?_
        (refine st rfl ?_; conv => arg 3; whnf)
        have e : (Led.mk d u k lim n).out x y = (Led.mk d u k lim n, .rights) := by simp only [Led.out]; rw [if_neg (by omega), if_neg (by omega), if_pos (by omega)]
        rw [e]
        exact n_ret0 rfl rfl fun ids' w' hp hI' => ⟨rfl, hI'.frm, hI'.blk_at hp 0 rfl rfl rfl⟩
      · refine n_chk (drawF_ok (by decide +kernel)) ?_
        (refine st rfl ?_; conv => arg 3; whnf)
        refine n_chk (drawF_ok (by decide +kernel)) ?_
        (refine st rfl ?_; conv => arg 3; whnf)
        have e : (Led.mk d u k lim n).out x y = (Led.mk (d - x) (u - y) k lim n, .ok) := by simp only [Led.out]; rw [if_neg (by omega), if_neg (by omega), if_neg (by omega)]
        rw [e]
        refine n_ret0 rfl rfl fun ids' w' hp hI' => ⟨rfl, hI'.frm, ?_⟩
        have hB := hI'.blk_at hp 0 rfl rfl rfl
        rw [w64 (n := d - x) (by omega) (by omega), w64 (n := u - y) (by omega) (by omega)] at hB
        exact hB

theorem In_ok {b0 b : Nat} {w : World} {a0 a1 a2 : Addr} (hs : Sents b0 w a0 a1 a2) (hb0 : b0 ≤ b) (hB : b0 ≤ w.heap.size) (s : Led) (ok : s.ok) (hb : Blk w b s.cells 62) (x y : Int) :
    Calls Tryd.prog 13 #[.pointer (some ⟨b, 0, none⟩), .agg #[.int .i64 x, .int .i64 y]] w fun e w' => e = .returned (.int .i64 (s.in_ x y).2.num) ∧ Frm [b] w w' ∧ Blk w' b (s.in_ x y).1.cells 62 := by
  have hI := ledInv (N := 9) (os := []) hb
  refine calls_sm (cx 9 [] [b] w) (vals := [.ptr 0 0, .agg [.int .i64 x, .int .i64 y]]) mixed Tryd.func13 rfl rfl rfl hI rfl (st rfl ?_); conv => arg 3; whnf
  refine n_updP 0 (.raw ((s.in_ x y).2.val a0 a1 a2)) (s.in_ x y).1.sv rfl rfl rfl rfl rfl rfl rfl (fun _ w1 hp1 hI1 => in_ok (hs.frm hI1.frm (by simpa using hb0) hB) hb0 (Nat.le_trans hB hI1.frm.size) s ok (hI1.blk_at hp1 0 rfl rfl rfl) x y) ?_
  generalize s.in_ x y = r
  (refine st rfl ?_; conv => arg 3; whnf)
  refine n_sameP (.int .i64 r.2.num) rfl rfl rfl (fun _ w1 hp1 hI1 => told_ok (hs.frm hI1.frm (by simpa using hb0) hB) r.2) ?_
  (refine st rfl ?_; conv => arg 3; whnf)
  exact n_ret0 rfl rfl fun ids' w' hp hI' => ⟨rfl, hI'.frm, hI'.blk_at hp 0 rfl rfl rfl⟩

theorem Out_ok {b0 b : Nat} {w : World} {a0 a1 a2 : Addr} (hs : Sents b0 w a0 a1 a2) (hb0 : b0 ≤ b) (hB : b0 ≤ w.heap.size) (s : Led) (ok : s.ok) (hb : Blk w b s.cells 62) (x y : Int) :
    Calls Tryd.prog 23 #[.pointer (some ⟨b, 0, none⟩), .agg #[.int .i64 x, .int .i64 y]] w fun e w' => e = .returned (.int .i64 (s.out x y).2.num) ∧ Frm [b] w w' ∧ Blk w' b (s.out x y).1.cells 62 := by
  have hI := ledInv (N := 9) (os := []) hb
  refine calls_sm (cx 9 [] [b] w) (vals := [.ptr 0 0, .agg [.int .i64 x, .int .i64 y]]) mixed Tryd.func23 rfl rfl rfl hI rfl (st rfl ?_); conv => arg 3; whnf
  refine n_updP 0 (.raw ((s.out x y).2.val a0 a1 a2)) (s.out x y).1.sv rfl rfl rfl rfl rfl rfl rfl (fun _ w1 hp1 hI1 => out_ok (hs.frm hI1.frm (by simpa using hb0) hB) hb0 (Nat.le_trans hB hI1.frm.size) s ok (hI1.blk_at hp1 0 rfl rfl rfl) x y) ?_
  generalize s.out x y = r
  (refine st rfl ?_; conv => arg 3; whnf)
  refine n_sameP (.int .i64 r.2.num) rfl rfl rfl (fun _ w1 hp1 hI1 => told_ok (hs.frm hI1.frm (by simpa using hb0) hB) r.2) ?_
  (refine st rfl ?_; conv => arg 3; whnf)
  exact n_ret0 rfl rfl fun ids' w' hp hI' => ⟨rfl, hI'.frm, hI'.blk_at hp 0 rfl rfl rfl⟩

/-! ### turn and the five that turn -/
def Led.get (s : Led) : Nat → Int
  | 0 => s.d | 1 => s.u | _ => s.h
def Led.set (s : Led) (x : Int) : Nat → Led
  | 0 => { s with d := x } | 1 => { s with u := x } | _ => { s with h := x }
def Led.turn (s : Led) (i j : Nat) (k : Int) : Led × LErr :=
  if capB k = false then (s, .arg) else if s.get i < k then (s, .rights) else ((s.set (s.get i - k) i).set (s.get j + k) j, .ok)

theorem turn_ok {b0 b : Nat} {w : World} {a0 a1 a2 : Addr} (hs : Sents b0 w a0 a1 a2) (hb0 : b0 ≤ b) (hB : b0 ≤ w.heap.size) (s : Led) (ok : s.ok) (hb : Blk w b s.cells 62) (x : Int) (i j : Nat) (hij : i = 0 ∧ j = 1 ∨ i = 1 ∧ j = 0 ∨ i = 0 ∧ j = 2 ∨ i = 2 ∧ j = 0 ∨ i = 2 ∧ j = 1) :
    Calls Tryd.prog 35 #[.int .i64 x, .pointer (some ⟨b, i, none⟩), .pointer (some ⟨b, j, none⟩)] w fun e w' => e = .returned (.int .i64 (s.turn i j x).2.num) ∧ Frm [b] w w' ∧ Blk w' b (s.turn i j x).1.cells 62 := by
  obtain ⟨d, u, k, lim, n⟩ := s
  obtain ⟨d0, u0, h0, sum, one, cap⟩ := ok
  dsimp only at d0 u0 h0 sum one cap
  have hI := ledInv (N := 31) (os := []) hb
  rcases hij with ⟨rfl, rfl⟩ | ⟨rfl, rfl⟩ | ⟨rfl, rfl⟩ | ⟨rfl, rfl⟩ | ⟨rfl, rfl⟩
  · refine calls_sm (cx 31 [] [b] w) (vals := [.int .i64 x, .ptr 0 0, .ptr 0 1]) mixed Tryd.func35 rfl rfl rfl hI rfl (st rfl ?_); conv => arg 3; whnf
    refine n_sameP (.bool (capB x)) rfl rfl rfl (fun _ w1 _ _ => caps_ok x w1) ?_
    (refine st rfl ?_; conv => arg 3; whnf)
    refine n_br (fun h1 => ?_) (fun h1 => ?_) <;> simp at h1 <;> (refine st rfl ?_; conv => arg 3; whnf)
    · refine n_ld (.raw _) rfl rfl (fun w' hf => load_cell aggErr ((hs.frm hf (by simpa using hb0) hB).g0)) ?_
      (refine st rfl ?_; conv => arg 3; whnf)
      refine n_sameP (.int .i64 1) rfl rfl rfl (fun _ w1 hp1 hI1 => told_ok (hs.frm hI1.frm (by simpa using hb0) hB) .arg) ?_
      (refine st rfl ?_; conv => arg 3; whnf)
      have e : (Led.mk d u k lim n).turn 0 1 x = (Led.mk d u k lim n, .arg) := by simp [Led.turn, h1]
      rw [e]
      exact n_ret0 rfl rfl fun ids' w' hp hI' => ⟨rfl, hI'.frm, hI'.blk_at hp 0 rfl rfl rfl⟩
    · refine n_br (fun h2 => ?_) (fun h2 => ?_) <;> simp at h2 <;> (refine st rfl ?_; conv => arg 3; whnf)
      · refine n_ld (.raw _) rfl rfl (fun w' hf => load_cell aggErr ((hs.frm hf (by simpa using hb0) hB).g1)) ?_
        (refine st rfl ?_; conv => arg 3; whnf)
        refine n_sameP (.int .i64 60) rfl rfl rfl (fun _ w1 hp1 hI1 => told_ok (hs.frm hI1.frm (by simpa using hb0) hB) .rights) ?_
        (refine st rfl ?_; conv => arg 3; whnf)
        have e : (Led.mk d u k lim n).turn 0 1 x = (Led.mk d u k lim n, .rights) := by simp [Led.turn, h1, Led.get, h2]
        rw [e]
        exact n_ret0 rfl rfl fun ids' w' hp hI' => ⟨rfl, hI'.frm, hI'.blk_at hp 0 rfl rfl rfl⟩
      · have hx : 1 ≤ x ∧ x ≤ 1099511627776 := by simpa [capB] using h1
        have e : (Led.mk d u k lim n).turn 0 1 x = (((Led.mk d u k lim n).set (d - x) 0).set (u + x) 1, .ok) := by simp only [Led.turn, h1, Led.get]; rw [if_neg (by simp), if_neg (by omega)]
        rw [e]
        refine n_ret0 rfl rfl fun ids' w' hp hI' => ⟨rfl, hI'.frm, ?_⟩
        have hB := hI'.blk_at hp 0 rfl rfl rfl
        rw [w64 (n := d - x) (by omega) (by omega), w64 (n := u + x) (by omega) (by omega)] at hB
        exact hB
  · refine calls_sm (cx 31 [] [b] w) (vals := [.int .i64 x, .ptr 0 1, .ptr 0 0]) mixed Tryd.func35 rfl rfl rfl hI rfl (st rfl ?_); conv => arg 3; whnf
    refine n_sameP (.bool (capB x)) rfl rfl rfl (fun _ w1 _ _ => caps_ok x w1) ?_
    (refine st rfl ?_; conv => arg 3; whnf)
    refine n_br (fun h1 => ?_) (fun h1 => ?_) <;> simp at h1 <;> (refine st rfl ?_; conv => arg 3; whnf)
    · refine n_ld (.raw _) rfl rfl (fun w' hf => load_cell aggErr ((hs.frm hf (by simpa using hb0) hB).g0)) ?_
      (refine st rfl ?_; conv => arg 3; whnf)
      refine n_sameP (.int .i64 1) rfl rfl rfl (fun _ w1 hp1 hI1 => told_ok (hs.frm hI1.frm (by simpa using hb0) hB) .arg) ?_
      (refine st rfl ?_; conv => arg 3; whnf)
      have e : (Led.mk d u k lim n).turn 1 0 x = (Led.mk d u k lim n, .arg) := by simp [Led.turn, h1]
      rw [e]
      exact n_ret0 rfl rfl fun ids' w' hp hI' => ⟨rfl, hI'.frm, hI'.blk_at hp 0 rfl rfl rfl⟩
    · refine n_br (fun h2 => ?_) (fun h2 => ?_) <;> simp at h2 <;> (refine st rfl ?_; conv => arg 3; whnf)
      · refine n_ld (.raw _) rfl rfl (fun w' hf => load_cell aggErr ((hs.frm hf (by simpa using hb0) hB).g1)) ?_
        (refine st rfl ?_; conv => arg 3; whnf)
        refine n_sameP (.int .i64 60) rfl rfl rfl (fun _ w1 hp1 hI1 => told_ok (hs.frm hI1.frm (by simpa using hb0) hB) .rights) ?_
        (refine st rfl ?_; conv => arg 3; whnf)
        have e : (Led.mk d u k lim n).turn 1 0 x = (Led.mk d u k lim n, .rights) := by simp [Led.turn, h1, Led.get, h2]
        rw [e]
        exact n_ret0 rfl rfl fun ids' w' hp hI' => ⟨rfl, hI'.frm, hI'.blk_at hp 0 rfl rfl rfl⟩
      · have hx : 1 ≤ x ∧ x ≤ 1099511627776 := by simpa [capB] using h1
        have e : (Led.mk d u k lim n).turn 1 0 x = (((Led.mk d u k lim n).set (u - x) 1).set (d + x) 0, .ok) := by simp only [Led.turn, h1, Led.get]; rw [if_neg (by simp), if_neg (by omega)]
        rw [e]
        refine n_ret0 rfl rfl fun ids' w' hp hI' => ⟨rfl, hI'.frm, ?_⟩
        have hB := hI'.blk_at hp 0 rfl rfl rfl
        rw [w64 (n := u - x) (by omega) (by omega), w64 (n := d + x) (by omega) (by omega)] at hB
        exact hB
  · refine calls_sm (cx 31 [] [b] w) (vals := [.int .i64 x, .ptr 0 0, .ptr 0 2]) mixed Tryd.func35 rfl rfl rfl hI rfl (st rfl ?_); conv => arg 3; whnf
    refine n_sameP (.bool (capB x)) rfl rfl rfl (fun _ w1 _ _ => caps_ok x w1) ?_
    (refine st rfl ?_; conv => arg 3; whnf)
    refine n_br (fun h1 => ?_) (fun h1 => ?_) <;> simp at h1 <;> (refine st rfl ?_; conv => arg 3; whnf)
    · refine n_ld (.raw _) rfl rfl (fun w' hf => load_cell aggErr ((hs.frm hf (by simpa using hb0) hB).g0)) ?_
      (refine st rfl ?_; conv => arg 3; whnf)
      refine n_sameP (.int .i64 1) rfl rfl rfl (fun _ w1 hp1 hI1 => told_ok (hs.frm hI1.frm (by simpa using hb0) hB) .arg) ?_
      (refine st rfl ?_; conv => arg 3; whnf)
      have e : (Led.mk d u k lim n).turn 0 2 x = (Led.mk d u k lim n, .arg) := by simp [Led.turn, h1]
      rw [e]
      exact n_ret0 rfl rfl fun ids' w' hp hI' => ⟨rfl, hI'.frm, hI'.blk_at hp 0 rfl rfl rfl⟩
    · refine n_br (fun h2 => ?_) (fun h2 => ?_) <;> simp at h2 <;> (refine st rfl ?_; conv => arg 3; whnf)
      · refine n_ld (.raw _) rfl rfl (fun w' hf => load_cell aggErr ((hs.frm hf (by simpa using hb0) hB).g1)) ?_
        (refine st rfl ?_; conv => arg 3; whnf)
        refine n_sameP (.int .i64 60) rfl rfl rfl (fun _ w1 hp1 hI1 => told_ok (hs.frm hI1.frm (by simpa using hb0) hB) .rights) ?_
        (refine st rfl ?_; conv => arg 3; whnf)
        have e : (Led.mk d u k lim n).turn 0 2 x = (Led.mk d u k lim n, .rights) := by simp [Led.turn, h1, Led.get, h2]
        rw [e]
        exact n_ret0 rfl rfl fun ids' w' hp hI' => ⟨rfl, hI'.frm, hI'.blk_at hp 0 rfl rfl rfl⟩
      · have hx : 1 ≤ x ∧ x ≤ 1099511627776 := by simpa [capB] using h1
        have e : (Led.mk d u k lim n).turn 0 2 x = (((Led.mk d u k lim n).set (d - x) 0).set (k + x) 2, .ok) := by simp only [Led.turn, h1, Led.get]; rw [if_neg (by simp), if_neg (by omega)]
        rw [e]
        refine n_ret0 rfl rfl fun ids' w' hp hI' => ⟨rfl, hI'.frm, ?_⟩
        have hB := hI'.blk_at hp 0 rfl rfl rfl
        rw [w64 (n := d - x) (by omega) (by omega), w64 (n := k + x) (by omega) (by omega)] at hB
        exact hB
  · refine calls_sm (cx 31 [] [b] w) (vals := [.int .i64 x, .ptr 0 2, .ptr 0 0]) mixed Tryd.func35 rfl rfl rfl hI rfl (st rfl ?_); conv => arg 3; whnf
    refine n_sameP (.bool (capB x)) rfl rfl rfl (fun _ w1 _ _ => caps_ok x w1) ?_
    (refine st rfl ?_; conv => arg 3; whnf)
    refine n_br (fun h1 => ?_) (fun h1 => ?_) <;> simp at h1 <;> (refine st rfl ?_; conv => arg 3; whnf)
    · refine n_ld (.raw _) rfl rfl (fun w' hf => load_cell aggErr ((hs.frm hf (by simpa using hb0) hB).g0)) ?_
      (refine st rfl ?_; conv => arg 3; whnf)
      refine n_sameP (.int .i64 1) rfl rfl rfl (fun _ w1 hp1 hI1 => told_ok (hs.frm hI1.frm (by simpa using hb0) hB) .arg) ?_
      (refine st rfl ?_; conv => arg 3; whnf)
      have e : (Led.mk d u k lim n).turn 2 0 x = (Led.mk d u k lim n, .arg) := by simp [Led.turn, h1]
      rw [e]
      exact n_ret0 rfl rfl fun ids' w' hp hI' => ⟨rfl, hI'.frm, hI'.blk_at hp 0 rfl rfl rfl⟩
    · refine n_br (fun h2 => ?_) (fun h2 => ?_) <;> simp at h2 <;> (refine st rfl ?_; conv => arg 3; whnf)
      · refine n_ld (.raw _) rfl rfl (fun w' hf => load_cell aggErr ((hs.frm hf (by simpa using hb0) hB).g1)) ?_
        (refine st rfl ?_; conv => arg 3; whnf)
        refine n_sameP (.int .i64 60) rfl rfl rfl (fun _ w1 hp1 hI1 => told_ok (hs.frm hI1.frm (by simpa using hb0) hB) .rights) ?_
        (refine st rfl ?_; conv => arg 3; whnf)
        have e : (Led.mk d u k lim n).turn 2 0 x = (Led.mk d u k lim n, .rights) := by simp [Led.turn, h1, Led.get, h2]
        rw [e]
        exact n_ret0 rfl rfl fun ids' w' hp hI' => ⟨rfl, hI'.frm, hI'.blk_at hp 0 rfl rfl rfl⟩
      · have hx : 1 ≤ x ∧ x ≤ 1099511627776 := by simpa [capB] using h1
        have e : (Led.mk d u k lim n).turn 2 0 x = (((Led.mk d u k lim n).set (k - x) 2).set (d + x) 0, .ok) := by simp only [Led.turn, h1, Led.get]; rw [if_neg (by simp), if_neg (by omega)]
        rw [e]
        refine n_ret0 rfl rfl fun ids' w' hp hI' => ⟨rfl, hI'.frm, ?_⟩
        have hB := hI'.blk_at hp 0 rfl rfl rfl
        rw [w64 (n := k - x) (by omega) (by omega), w64 (n := d + x) (by omega) (by omega)] at hB
        exact hB
  · refine calls_sm (cx 31 [] [b] w) (vals := [.int .i64 x, .ptr 0 2, .ptr 0 1]) mixed Tryd.func35 rfl rfl rfl hI rfl (st rfl ?_); conv => arg 3; whnf
    refine n_sameP (.bool (capB x)) rfl rfl rfl (fun _ w1 _ _ => caps_ok x w1) ?_
    (refine st rfl ?_; conv => arg 3; whnf)
    refine n_br (fun h1 => ?_) (fun h1 => ?_) <;> simp at h1 <;> (refine st rfl ?_; conv => arg 3; whnf)
    · refine n_ld (.raw _) rfl rfl (fun w' hf => load_cell aggErr ((hs.frm hf (by simpa using hb0) hB).g0)) ?_
      (refine st rfl ?_; conv => arg 3; whnf)
      refine n_sameP (.int .i64 1) rfl rfl rfl (fun _ w1 hp1 hI1 => told_ok (hs.frm hI1.frm (by simpa using hb0) hB) .arg) ?_
      (refine st rfl ?_; conv => arg 3; whnf)
      have e : (Led.mk d u k lim n).turn 2 1 x = (Led.mk d u k lim n, .arg) := by simp [Led.turn, h1]
      rw [e]
      exact n_ret0 rfl rfl fun ids' w' hp hI' => ⟨rfl, hI'.frm, hI'.blk_at hp 0 rfl rfl rfl⟩
    · refine n_br (fun h2 => ?_) (fun h2 => ?_) <;> simp at h2 <;> (refine st rfl ?_; conv => arg 3; whnf)
      · refine n_ld (.raw _) rfl rfl (fun w' hf => load_cell aggErr ((hs.frm hf (by simpa using hb0) hB).g1)) ?_
        (refine st rfl ?_; conv => arg 3; whnf)
        refine n_sameP (.int .i64 60) rfl rfl rfl (fun _ w1 hp1 hI1 => told_ok (hs.frm hI1.frm (by simpa using hb0) hB) .rights) ?_
        (refine st rfl ?_; conv => arg 3; whnf)
        have e : (Led.mk d u k lim n).turn 2 1 x = (Led.mk d u k lim n, .rights) := by simp [Led.turn, h1, Led.get, h2]
        rw [e]
        exact n_ret0 rfl rfl fun ids' w' hp hI' => ⟨rfl, hI'.frm, hI'.blk_at hp 0 rfl rfl rfl⟩
      · have hx : 1 ≤ x ∧ x ≤ 1099511627776 := by simpa [capB] using h1
        have e : (Led.mk d u k lim n).turn 2 1 x = (((Led.mk d u k lim n).set (k - x) 2).set (u + x) 1, .ok) := by simp only [Led.turn, h1, Led.get]; rw [if_neg (by simp), if_neg (by omega)]
        rw [e]
        refine n_ret0 rfl rfl fun ids' w' hp hI' => ⟨rfl, hI'.frm, ?_⟩
        have hB := hI'.blk_at hp 0 rfl rfl rfl
        rw [w64 (n := k - x) (by omega) (by omega), w64 (n := u + x) (by omega) (by omega)] at hB
        exact hB

theorem Dec_ok {b0 b : Nat} {w : World} {a0 a1 a2 : Addr} (hs : Sents b0 w a0 a1 a2) (hb0 : b0 ≤ b) (hB : b0 ≤ w.heap.size) (s : Led) (ok : s.ok) (hb : Blk w b s.cells 62) (x : Int) :
    Calls Tryd.prog 14 #[.pointer (some ⟨b, 0, none⟩), .int .i64 x] w fun e w' => e = .returned (.int .i64 (s.turn 0 1 x).2.num) ∧ Frm [b] w w' ∧ Blk w' b (s.turn 0 1 x).1.cells 62 := by
  have hI := ledInv (N := 13) (os := []) hb
  refine calls_sm (cx 13 [] [b] w) (vals := [.ptr 0 0, .int .i64 x]) mixed Tryd.func14 rfl rfl rfl hI rfl (st rfl ?_); conv => arg 3; whnf
  refine n_chk (drawF_ok (by decide +kernel)) ?_
  (refine st rfl ?_; conv => arg 3; whnf)
  refine n_updP 0 (.int .i64 (s.turn 0 1 x).2.num) (s.turn 0 1 x).1.sv rfl rfl rfl rfl rfl rfl rfl (fun _ w1 hp1 hI1 => turn_ok (hs.frm hI1.frm (by simpa using hb0) hB) hb0 (Nat.le_trans hB hI1.frm.size) s ok (hI1.blk_at hp1 0 rfl rfl rfl) x 0 1 (by simp)) ?_
  (refine st rfl ?_; conv => arg 3; whnf)
  exact n_ret0 rfl rfl fun ids' w' hp hI' => ⟨rfl, hI'.frm, hI'.blk_at hp 0 rfl rfl rfl⟩

theorem Inc_ok {b0 b : Nat} {w : World} {a0 a1 a2 : Addr} (hs : Sents b0 w a0 a1 a2) (hb0 : b0 ≤ b) (hB : b0 ≤ w.heap.size) (s : Led) (ok : s.ok) (hb : Blk w b s.cells 62) (x : Int) :
    Calls Tryd.prog 15 #[.pointer (some ⟨b, 0, none⟩), .int .i64 x] w fun e w' => e = .returned (.int .i64 (s.turn 1 0 x).2.num) ∧ Frm [b] w w' ∧ Blk w' b (s.turn 1 0 x).1.cells 62 := by
  have hI := ledInv (N := 13) (os := []) hb
  refine calls_sm (cx 13 [] [b] w) (vals := [.ptr 0 0, .int .i64 x]) mixed Tryd.func15 rfl rfl rfl hI rfl (st rfl ?_); conv => arg 3; whnf
  refine n_chk (drawF_ok (by decide +kernel)) ?_
  (refine st rfl ?_; conv => arg 3; whnf)
  refine n_updP 0 (.int .i64 (s.turn 1 0 x).2.num) (s.turn 1 0 x).1.sv rfl rfl rfl rfl rfl rfl rfl (fun _ w1 hp1 hI1 => turn_ok (hs.frm hI1.frm (by simpa using hb0) hB) hb0 (Nat.le_trans hB hI1.frm.size) s ok (hI1.blk_at hp1 0 rfl rfl rfl) x 1 0 (by simp)) ?_
  (refine st rfl ?_; conv => arg 3; whnf)
  exact n_ret0 rfl rfl fun ids' w' hp hI' => ⟨rfl, hI'.frm, hI'.blk_at hp 0 rfl rfl rfl⟩

theorem Lock_ok {b0 b : Nat} {w : World} {a0 a1 a2 : Addr} (hs : Sents b0 w a0 a1 a2) (hb0 : b0 ≤ b) (hB : b0 ≤ w.heap.size) (s : Led) (ok : s.ok) (hb : Blk w b s.cells 62) (x : Int) :
    Calls Tryd.prog 18 #[.pointer (some ⟨b, 0, none⟩), .int .i64 x] w fun e w' => e = .returned (.int .i64 (s.turn 0 2 x).2.num) ∧ Frm [b] w w' ∧ Blk w' b (s.turn 0 2 x).1.cells 62 := by
  have hI := ledInv (N := 13) (os := []) hb
  refine calls_sm (cx 13 [] [b] w) (vals := [.ptr 0 0, .int .i64 x]) mixed Tryd.func18 rfl rfl rfl hI rfl (st rfl ?_); conv => arg 3; whnf
  refine n_chk (drawF_ok (by decide +kernel)) ?_
  (refine st rfl ?_; conv => arg 3; whnf)
  refine n_updP 0 (.int .i64 (s.turn 0 2 x).2.num) (s.turn 0 2 x).1.sv rfl rfl rfl rfl rfl rfl rfl (fun _ w1 hp1 hI1 => turn_ok (hs.frm hI1.frm (by simpa using hb0) hB) hb0 (Nat.le_trans hB hI1.frm.size) s ok (hI1.blk_at hp1 0 rfl rfl rfl) x 0 2 (by simp)) ?_
  (refine st rfl ?_; conv => arg 3; whnf)
  exact n_ret0 rfl rfl fun ids' w' hp hI' => ⟨rfl, hI'.frm, hI'.blk_at hp 0 rfl rfl rfl⟩

theorem Free_ok {b0 b : Nat} {w : World} {a0 a1 a2 : Addr} (hs : Sents b0 w a0 a1 a2) (hb0 : b0 ≤ b) (hB : b0 ≤ w.heap.size) (s : Led) (ok : s.ok) (hb : Blk w b s.cells 62) (x : Int) :
    Calls Tryd.prog 20 #[.pointer (some ⟨b, 0, none⟩), .int .i64 x] w fun e w' => e = .returned (.int .i64 (s.turn 2 0 x).2.num) ∧ Frm [b] w w' ∧ Blk w' b (s.turn 2 0 x).1.cells 62 := by
  have hI := ledInv (N := 13) (os := []) hb
  refine calls_sm (cx 13 [] [b] w) (vals := [.ptr 0 0, .int .i64 x]) mixed Tryd.func20 rfl rfl rfl hI rfl (st rfl ?_); conv => arg 3; whnf
  refine n_chk (drawF_ok (by decide +kernel)) ?_
  (refine st rfl ?_; conv => arg 3; whnf)
  refine n_updP 0 (.int .i64 (s.turn 2 0 x).2.num) (s.turn 2 0 x).1.sv rfl rfl rfl rfl rfl rfl rfl (fun _ w1 hp1 hI1 => turn_ok (hs.frm hI1.frm (by simpa using hb0) hB) hb0 (Nat.le_trans hB hI1.frm.size) s ok (hI1.blk_at hp1 0 rfl rfl rfl) x 2 0 (by simp)) ?_
  (refine st rfl ?_; conv => arg 3; whnf)
  exact n_ret0 rfl rfl fun ids' w' hp hI' => ⟨rfl, hI'.frm, hI'.blk_at hp 0 rfl rfl rfl⟩

theorem Burn_ok {b0 b : Nat} {w : World} {a0 a1 a2 : Addr} (hs : Sents b0 w a0 a1 a2) (hb0 : b0 ≤ b) (hB : b0 ≤ w.heap.size) (s : Led) (ok : s.ok) (hb : Blk w b s.cells 62) (x : Int) :
    Calls Tryd.prog 21 #[.pointer (some ⟨b, 0, none⟩), .int .i64 x] w fun e w' => e = .returned (.int .i64 (s.turn 2 1 x).2.num) ∧ Frm [b] w w' ∧ Blk w' b (s.turn 2 1 x).1.cells 62 := by
  have hI := ledInv (N := 13) (os := []) hb
  refine calls_sm (cx 13 [] [b] w) (vals := [.ptr 0 0, .int .i64 x]) mixed Tryd.func21 rfl rfl rfl hI rfl (st rfl ?_); conv => arg 3; whnf
  refine n_chk (drawF_ok (by decide +kernel)) ?_
  (refine st rfl ?_; conv => arg 3; whnf)
  refine n_updP 0 (.int .i64 (s.turn 2 1 x).2.num) (s.turn 2 1 x).1.sv rfl rfl rfl rfl rfl rfl rfl (fun _ w1 hp1 hI1 => turn_ok (hs.frm hI1.frm (by simpa using hb0) hB) hb0 (Nat.le_trans hB hI1.frm.size) s ok (hI1.blk_at hp1 0 rfl rfl rfl) x 2 1 (by simp)) ?_
  (refine st rfl ?_; conv => arg 3; whnf)
  exact n_ret0 rfl rfl fun ids' w' hp hI' => ⟨rfl, hI'.frm, hI'.blk_at hp 0 rfl rfl rfl⟩

/-! ### the looks -/
theorem Cap_ok {b : Nat} {w : World} (s : Led) (hb : Blk w b s.cells 62) :
    Calls Tryd.prog 27 #[.pointer (some ⟨b, 0, none⟩)] w fun e w' => e = .returned (.tuple #[.int .i64 s.lim, .int .i64 s.n]) ∧ Frm [] w w' := by
  have hI : Inv (cx 12 [] [] w) w [b] [⟨62, s.sv, false⟩] := (Inv.nil w).cons (by simp) rfl hb (by simp)
  refine calls_sm (cx 12 [] [] w) (vals := [.ptr 0 0]) mixed Tryd.func27 rfl rfl rfl hI rfl (st rfl ?_); conv => arg 3; whnf
  refine n_chk (drawF_ok (by decide +kernel)) ?_
  (refine st rfl ?_; conv => arg 3; whnf)
  exact n_ret0 rfl rfl fun ids' w' hp hI' => ⟨rfl, hI'.frm⟩
theorem Rights_ok {b : Nat} {w : World} (s : Led) (hb : Blk w b s.cells 62) :
    Calls Tryd.prog 17 #[.pointer (some ⟨b, 0, none⟩)] w fun e w' => e = .returned (.agg #[.int .i64 s.d, .int .i64 s.u]) ∧ Frm [] w w' := by
  have hI : Inv (cx 12 [] [] w) w [b] [⟨62, s.sv, false⟩] := (Inv.nil w).cons (by simp) rfl hb (by simp)
  refine calls_sm (cx 12 [] [] w) (vals := [.ptr 0 0]) mixed Tryd.func17 rfl rfl rfl hI rfl (st rfl ?_); conv => arg 3; whnf
  refine n_chk (drawF_ok (by decide +kernel)) ?_
  (refine st rfl ?_; conv => arg 3; whnf)
  exact n_ret0 rfl rfl fun ids' w' hp hI' => ⟨rfl, hI'.frm⟩
theorem Held_ok {b : Nat} {w : World} (s : Led) (hb : Blk w b s.cells 62) :
    Calls Tryd.prog 19 #[.pointer (some ⟨b, 0, none⟩)] w fun e w' => e = .returned (.int .i64 s.h) ∧ Frm [] w w' := by
  have hI : Inv (cx 7 [] [] w) w [b] [⟨62, s.sv, false⟩] := (Inv.nil w).cons (by simp) rfl hb (by simp)
  refine calls_sm (cx 7 [] [] w) (vals := [.ptr 0 0]) mixed Tryd.func19 rfl rfl rfl hI rfl (st rfl ?_); conv => arg 3; whnf
  exact n_ret0 rfl rfl fun ids' w' hp hI' => ⟨rfl, hI'.frm⟩

/-! ### All -/
theorem All_ok {b : Nat} {w : World} (s : Led) (hb : Blk w b s.cells 62) :
    Calls Tryd.prog 22 #[.pointer (some ⟨b, 0, none⟩)] w fun e w' => e = .returned (.agg #[.int .i64 s.d, .int .i64 s.u]) ∧ Frm [b] w w' ∧ Blk w' b ({ s with d := 0, u := 0 } : Led).cells 62 := by
  have hI := ledInv (N := 13) (os := []) hb
  refine calls_sm (cx 13 [] [b] w) (vals := [.ptr 0 0]) mixed Tryd.func22 rfl rfl rfl hI rfl (st rfl ?_); conv => arg 3; whnf
  refine n_sameP (.agg [.int .i64 s.d, .int .i64 s.u]) rfl rfl rfl (fun _ w1 hp1 hI1 => Rights_ok s (hI1.blk_at hp1 0 rfl rfl rfl)) ?_
  (refine st rfl ?_; conv => arg 3; whnf)
  (repeat (first | (refine n_must rfl ?_; (refine st rfl ?_; conv => arg 3; whnf)) | (refine n_chk (drawF_ok (by decide +kernel)) ?_; (refine st rfl ?_; conv => arg 3; whnf)) | (refine n_same rfl ?_; (refine st rfl ?_; conv => arg 3; whnf))))
  exact n_ret0 rfl rfl fun ids' w' hp hI' => ⟨rfl, hI'.frm, hI'.blk_at hp 0 rfl rfl rfl⟩

/-! ### Set, Recap, Hear, New -/
def Led.setD (s : Led) (x : Int) : Led × LErr :=
  if x < 0 then (s, .arg) else if s.d + s.u < x then (s, .cap) else ({ s with d := x, u := s.d + s.u - x }, .ok)
def Led.recap (s : Led) (x y : Int) : Led × LErr :=
  if capB x = false then (s, .arg) else if y ≤ s.n then (s, .arg) else if s.u < s.lim - x then (s, .cap) else ({ s with u := s.u + (x - s.lim), lim := x, n := y }, .ok)
def Led.hear (s : Led) (x y : Int) : Led × Bool :=
  if capB x = false then (s, false) else if y ≤ s.n then (s, false) else if x < s.d + s.u + s.h then (s, false) else ({ s with lim := x, n := y }, true)

theorem Set_ok {b0 b : Nat} {w : World} {a0 a1 a2 : Addr} (hs : Sents b0 w a0 a1 a2) (hb0 : b0 ≤ b) (hB : b0 ≤ w.heap.size) (s : Led) (ok : s.ok) (hb : Blk w b s.cells 62) (x : Int) :
    Calls Tryd.prog 39 #[.pointer (some ⟨b, 0, none⟩), .int .i64 x] w fun e w' => e = .returned (.int .i64 (s.setD x).2.num) ∧ Frm [b] w w' ∧ Blk w' b (s.setD x).1.cells 62 := by
  obtain ⟨d, u, k, lim, n⟩ := s
  obtain ⟨d0, u0, h0, sum, one, cap⟩ := ok
  dsimp only at d0 u0 h0 sum one cap
  have hI := ledInv (N := 36) (os := []) hb
  have e1 : IntKind.i64.wrap (d + u) = d + u := w64 (by omega) (by omega)
  refine calls_sm (cx 36 [] [b] w) (vals := [.ptr 0 0, .int .i64 x]) mixed Tryd.func39 rfl rfl rfl hI rfl (st rfl ?_); conv => arg 3; whnf
  (repeat (first | (refine n_must rfl ?_; (refine st rfl ?_; conv => arg 3; whnf)) | (refine n_chk (drawF_ok (by decide +kernel)) ?_; (refine st rfl ?_; conv => arg 3; whnf)) | (refine n_same rfl ?_; (refine st rfl ?_; conv => arg 3; whnf))))
  refine n_br (fun h1 => ?_) (fun h1 => ?_) <;> simp at h1 <;> (refine st rfl ?_; conv => arg 3; whnf)
  · refine n_ld (.raw _) rfl rfl (fun w' hf => load_cell aggErr ((hs.frm hf (by simpa using hb0) hB).g0)) ?_
    (refine st rfl ?_; conv => arg 3; whnf)
    refine n_sameP (.int .i64 1) rfl rfl rfl (fun _ w1 hp1 hI1 => told_ok (hs.frm hI1.frm (by simpa using hb0) hB) .arg) ?_
    (refine st rfl ?_; conv => arg 3; whnf)
    have e : (Led.mk d u k lim n).setD x = (Led.mk d u k lim n, .arg) := by simp [Led.setD, h1]
    rw [e]
    exact n_ret0 rfl rfl fun ids' w' hp hI' => ⟨rfl, hI'.frm, hI'.blk_at hp 0 rfl rfl rfl⟩
  · refine n_br (fun h2 => ?_) (fun h2 => ?_) <;> rw [e1] at h2 <;> simp at h2 <;> (refine st rfl ?_; conv => arg 3; whnf)
    · refine n_ld (.raw _) rfl rfl (fun w' hf => load_cell aggErr ((hs.frm hf (by simpa using hb0) hB).g2)) ?_
      (refine st rfl ?_; conv => arg 3; whnf)
      refine n_sameP (.int .i64 61) rfl rfl rfl (fun _ w1 hp1 hI1 => told_ok (hs.frm hI1.frm (by simpa using hb0) hB) .cap) ?_
      (refine st rfl ?_; conv => arg 3; whnf)
      have e : (Led.mk d u k lim n).setD x = (Led.mk d u k lim n, .cap) := by simp only [Led.setD]; rw [if_neg (by omega), if_pos (by omega)]
      rw [e]
      exact n_ret0 rfl rfl fun ids' w' hp hI' => ⟨rfl, hI'.frm, hI'.blk_at hp 0 rfl rfl rfl⟩
    · have e : (Led.mk d u k lim n).setD x = (Led.mk x (d + u - x) k lim n, .ok) := by simp only [Led.setD]; rw [if_neg (by omega), if_neg (by omega)]
      rw [e]
      refine n_ret0 rfl rfl fun ids' w' hp hI' => ⟨rfl, hI'.frm, ?_⟩
      have hB := hI'.blk_at hp 0 rfl rfl rfl
      rw [w64 (n := d + u) (by omega) (by omega), w64 (n := d + u - x) (by omega) (by omega)] at hB
      exact hB

theorem Recap_ok {b0 b : Nat} {w : World} {a0 a1 a2 : Addr} (hs : Sents b0 w a0 a1 a2) (hb0 : b0 ≤ b) (hB : b0 ≤ w.heap.size) (s : Led) (ok : s.ok) (hb : Blk w b s.cells 62) (x y : Int) :
    Calls Tryd.prog 40 #[.pointer (some ⟨b, 0, none⟩), .int .i64 x, .int .i64 y] w fun e w' => e = .returned (.int .i64 (s.recap x y).2.num) ∧ Frm [b] w w' ∧ Blk w' b (s.recap x y).1.cells 62 := by
  obtain ⟨d, u, k, lim, n⟩ := s
  obtain ⟨d0, u0, h0, sum, one, cap⟩ := ok
  dsimp only at d0 u0 h0 sum one cap
  have hI := ledInv (N := 56) (os := []) hb
  refine calls_sm (cx 56 [] [b] w) (vals := [.ptr 0 0, .int .i64 x, .int .i64 y]) mixed Tryd.func40 rfl rfl rfl hI rfl (st rfl ?_); conv => arg 3; whnf
  refine n_sameP (.bool (capB x)) rfl rfl rfl (fun _ w1 _ _ => caps_ok x w1) ?_
  (refine st rfl ?_; conv => arg 3; whnf)
  refine n_br (fun h1 => ?_) (fun h1 => ?_) <;> simp at h1 <;> (refine st rfl ?_; conv => arg 3; whnf)
  · refine n_ld (.raw _) rfl rfl (fun w' hf => load_cell aggErr ((hs.frm hf (by simpa using hb0) hB).g0)) ?_
    (refine st rfl ?_; conv => arg 3; whnf)
    refine n_sameP (.int .i64 1) rfl rfl rfl (fun _ w1 hp1 hI1 => told_ok (hs.frm hI1.frm (by simpa using hb0) hB) .arg) ?_
    (refine st rfl ?_; conv => arg 3; whnf)
    have e : (Led.mk d u k lim n).recap x y = (Led.mk d u k lim n, .arg) := by simp [Led.recap, h1]
    rw [e]
    exact n_ret0 rfl rfl fun ids' w' hp hI' => ⟨rfl, hI'.frm, hI'.blk_at hp 0 rfl rfl rfl⟩
  · have hx : 1 ≤ x ∧ x ≤ 1099511627776 := by simpa [capB] using h1
    refine n_br (fun h2 => ?_) (fun h2 => ?_) <;> simp at h2 <;> (refine st rfl ?_; conv => arg 3; whnf)
    · refine n_ld (.raw _) rfl rfl (fun w' hf => load_cell aggErr ((hs.frm hf (by simpa using hb0) hB).g0)) ?_
      (refine st rfl ?_; conv => arg 3; whnf)
      refine n_sameP (.int .i64 1) rfl rfl rfl (fun _ w1 hp1 hI1 => told_ok (hs.frm hI1.frm (by simpa using hb0) hB) .arg) ?_
      (refine st rfl ?_; conv => arg 3; whnf)
      have e : (Led.mk d u k lim n).recap x y = (Led.mk d u k lim n, .arg) := by simp [Led.recap, h1, h2]
      rw [e]
      exact n_ret0 rfl rfl fun ids' w' hp hI' => ⟨rfl, hI'.frm, hI'.blk_at hp 0 rfl rfl rfl⟩
    · (repeat (first | (refine n_must rfl ?_; (refine st rfl ?_; conv => arg 3; whnf)) | (refine n_chk (drawF_ok (by decide +kernel)) ?_; (refine st rfl ?_; conv => arg 3; whnf)) | (refine n_same rfl ?_; (refine st rfl ?_; conv => arg 3; whnf))))
      refine n_br (fun h3 => ?_) (fun h3 => ?_) <;> rw [w64 (n := lim - x) (by omega) (by omega)] at h3 <;> simp at h3 <;> (refine st rfl ?_; conv => arg 3; whnf)
      · refine n_ld (.raw _) rfl rfl (fun w' hf => load_cell aggErr ((hs.frm hf (by simpa using hb0) hB).g2)) ?_
        (refine st rfl ?_; conv => arg 3; whnf)
        refine n_sameP (.int .i64 61) rfl rfl rfl (fun _ w1 hp1 hI1 => told_ok (hs.frm hI1.frm (by simpa using hb0) hB) .cap) ?_
        (refine st rfl ?_; conv => arg 3; whnf)
        have e : (Led.mk d u k lim n).recap x y = (Led.mk d u k lim n, .cap) := by simp only [Led.recap]; rw [if_neg (by simp [h1]), if_neg (by omega), if_pos (by omega)]
        rw [e]
        exact n_ret0 rfl rfl fun ids' w' hp hI' => ⟨rfl, hI'.frm, hI'.blk_at hp 0 rfl rfl rfl⟩
      · (repeat (first | (refine n_must rfl ?_; (refine st rfl ?_; conv => arg 3; whnf)) | (refine n_chk (drawF_ok (by decide +kernel)) ?_; (refine st rfl ?_; conv => arg 3; whnf)) | (refine n_same rfl ?_; (refine st rfl ?_; conv => arg 3; whnf))))
        have e : (Led.mk d u k lim n).recap x y = (Led.mk d (u + (x - lim)) k x y, .ok) := by simp only [Led.recap]; rw [if_neg (by simp [h1]), if_neg (by omega), if_neg (by omega)]
        rw [e]
        refine n_ret0 rfl rfl fun ids' w' hp hI' => ⟨rfl, hI'.frm, ?_⟩
        have hB := hI'.blk_at hp 0 rfl rfl rfl
        rw [w64 (n := x - lim) (by omega) (by omega), w64 (n := u + (x - lim)) (by omega) (by omega)] at hB
        exact hB

theorem Hear_ok {b : Nat} {w : World} (s : Led) (ok : s.ok) (hb : Blk w b s.cells 62) (x y : Int) :
    Calls Tryd.prog 28 #[.pointer (some ⟨b, 0, none⟩), .int .i64 x, .int .i64 y] w fun e w' => e = .returned (.bool (s.hear x y).2) ∧ Frm [b] w w' ∧ Blk w' b (s.hear x y).1.cells 62 := by
  obtain ⟨d, u, k, lim, n⟩ := s
  obtain ⟨d0, u0, h0, sum, one, cap⟩ := ok
  dsimp only at d0 u0 h0 sum one cap
  have hI := ledInv (N := 44) (os := []) hb
  have e1 : IntKind.i64.wrap (IntKind.i64.wrap (d + u) + k) = d + u + k := by rw [w64 (n := d + u) (by omega) (by omega), w64 (by omega) (by omega)]
  refine calls_sm (cx 44 [] [b] w) (vals := [.ptr 0 0, .int .i64 x, .int .i64 y]) mixed Tryd.func28 rfl rfl rfl hI rfl (st rfl ?_); conv => arg 3; whnf
  (repeat (first | (refine n_must rfl ?_; (refine st rfl ?_; conv => arg 3; whnf)) | (refine n_chk (drawF_ok (by decide +kernel)) ?_; (refine st rfl ?_; conv => arg 3; whnf)) | (refine n_same rfl ?_; (refine st rfl ?_; conv => arg 3; whnf))))
  refine n_sameP (.bool (capB x)) rfl rfl rfl (fun _ w1 _ _ => caps_ok x w1) ?_
  (refine st rfl ?_; conv => arg 3; whnf)
  refine n_br (fun h1 => ?_) (fun h1 => ?_) <;> simp at h1 <;> (refine st rfl ?_; conv => arg 3; whnf)
  · have e : (Led.mk d u k lim n).hear x y = (Led.mk d u k lim n, false) := by simp [Led.hear, h1]
    rw [e]
    exact n_ret0 rfl rfl fun ids' w' hp hI' => ⟨rfl, hI'.frm, hI'.blk_at hp 0 rfl rfl rfl⟩
  · refine n_br (fun h2 => ?_) (fun h2 => ?_) <;> simp at h2 <;> (refine st rfl ?_; conv => arg 3; whnf)
    · have e : (Led.mk d u k lim n).hear x y = (Led.mk d u k lim n, false) := by simp [Led.hear, h1, h2]
      rw [e]
      exact n_ret0 rfl rfl fun ids' w' hp hI' => ⟨rfl, hI'.frm, hI'.blk_at hp 0 rfl rfl rfl⟩
    · refine n_br (fun h3 => ?_) (fun h3 => ?_) <;> rw [e1] at h3 <;> simp at h3 <;> (refine st rfl ?_; conv => arg 3; whnf)
      · have e : (Led.mk d u k lim n).hear x y = (Led.mk d u k lim n, false) := by simp only [Led.hear]; rw [if_neg (by simp [h1]), if_neg (by omega), if_pos (by omega)]
        rw [e]
        exact n_ret0 rfl rfl fun ids' w' hp hI' => ⟨rfl, hI'.frm, hI'.blk_at hp 0 rfl rfl rfl⟩
      · have e : (Led.mk d u k lim n).hear x y = (Led.mk d u k x y, true) := by simp only [Led.hear]; rw [if_neg (by simp [h1]), if_neg (by omega), if_neg (by omega)]
        rw [e]
        exact n_ret0 rfl rfl fun ids' w' hp hI' => ⟨rfl, hI'.frm, hI'.blk_at hp 0 rfl rfl rfl⟩

theorem New_ok (x : Int) (w : World) :
    Calls Tryd.prog 12 #[.int .i64 x] w fun e w' => (capB x = false ∧ e = .returned (.tuple #[.pointer none, .int .i64 1]) ∧ Frm [] w w') ∨
      (capB x = true ∧ ∃ b, w.heap.size ≤ b ∧ e = .returned (.tuple #[.pointer (some ⟨b, 0, none⟩), .int .i64 0]) ∧ Frm [] w w' ∧ Blk w' b (Led.mk 0 0 0 x 0).cells 62) := by
  have hI := Inv.nil (P := Tryd.prog) (N := 10) (S := []) (os := []) w
  refine calls_sm (cx 10 [] [] w) (vals := [.int .i64 x]) mixed Tryd.func12 rfl rfl rfl hI rfl (st rfl ?_); conv => arg 3; whnf
  refine n_sameP (.bool (capB x)) rfl rfl rfl (fun _ w1 _ _ => caps_ok x w1) ?_
  (refine st rfl ?_; conv => arg 3; whnf)
  refine n_br (fun h1 => ?_) (fun h1 => ?_) <;> simp at h1 <;> (refine st rfl ?_; conv => arg 3; whnf)
  · exact n_ret0 rfl rfl fun ids' w' hp hI' => .inl ⟨h1, rfl, hI'.frm⟩
  · refine n_ret rfl fun ids' w' hp hI' => ?_
    obtain ⟨b, rfl⟩ := ext1 hp hI'.len
    refine ⟨_, rfl, .inr ⟨h1, b, ?_, rfl, hI'.frm, hI'.blk_at (List.prefix_refl _) 0 rfl rfl rfl⟩⟩
    rcases hI'.owned 0 _ b rfl rfl rfl with h | h
    · cases h
    · exact h

/-! ### What the calls keep -/
theorem Led.in_ok {s : Led} (h : s.ok) (x y : Int) : (s.in_ x y).1.ok := by
  obtain ⟨d0, u0, h0, sum, one, cap⟩ := h
  unfold Led.in_
  split
  · exact ⟨d0, u0, h0, sum, one, cap⟩
  · split
    · exact ⟨d0, u0, h0, sum, one, cap⟩
    · split
      · exact ⟨d0, u0, h0, sum, one, cap⟩
      · constructor <;> dsimp only <;> omega
theorem Led.out_ok {s : Led} (h : s.ok) (x y : Int) : (s.out x y).1.ok := by
  obtain ⟨d0, u0, h0, sum, one, cap⟩ := h
  unfold Led.out
  split
  · exact ⟨d0, u0, h0, sum, one, cap⟩
  · split
    · exact ⟨d0, u0, h0, sum, one, cap⟩
    · split
      · exact ⟨d0, u0, h0, sum, one, cap⟩
      · constructor <;> dsimp only <;> omega
theorem Led.setD_ok {s : Led} (h : s.ok) (x : Int) : (s.setD x).1.ok := by
  obtain ⟨d0, u0, h0, sum, one, cap⟩ := h
  unfold Led.setD
  split
  · exact ⟨d0, u0, h0, sum, one, cap⟩
  · split
    · exact ⟨d0, u0, h0, sum, one, cap⟩
    · constructor <;> dsimp only <;> omega
theorem Led.recap_ok {s : Led} (h : s.ok) (x y : Int) : (s.recap x y).1.ok := by
  obtain ⟨d0, u0, h0, sum, one, cap⟩ := h
  unfold Led.recap
  split
  · exact ⟨d0, u0, h0, sum, one, cap⟩
  · rename_i hc
    have hx : 1 ≤ x ∧ x ≤ 1099511627776 := by simpa [capB] using hc
    split
    · exact ⟨d0, u0, h0, sum, one, cap⟩
    · split
      · exact ⟨d0, u0, h0, sum, one, cap⟩
      · constructor <;> dsimp only <;> omega
theorem Led.hear_ok {s : Led} (h : s.ok) (x y : Int) : (s.hear x y).1.ok := by
  obtain ⟨d0, u0, h0, sum, one, cap⟩ := h
  unfold Led.hear
  split
  · exact ⟨d0, u0, h0, sum, one, cap⟩
  · rename_i hc
    have hx : 1 ≤ x ∧ x ≤ 1099511627776 := by simpa [capB] using hc
    split
    · exact ⟨d0, u0, h0, sum, one, cap⟩
    · split
      · exact ⟨d0, u0, h0, sum, one, cap⟩
      · constructor <;> dsimp only <;> omega
theorem Led.all_ok {s : Led} (h : s.ok) : ({ s with d := 0, u := 0 } : Led).ok := by
  obtain ⟨d0, u0, h0, sum, one, cap⟩ := h
  constructor <;> dsimp only <;> omega
theorem Led.turn_ok {s : Led} (h : s.ok) (x : Int) {i j : Nat} (hij : i = 0 ∧ j = 1 ∨ i = 1 ∧ j = 0 ∨ i = 0 ∧ j = 2 ∨ i = 2 ∧ j = 0 ∨ i = 2 ∧ j = 1) : (s.turn i j x).1.ok := by
  obtain ⟨d0, u0, h0, sum, one, cap⟩ := h
  unfold Led.turn
  split
  · exact ⟨d0, u0, h0, sum, one, cap⟩
  · rename_i hc
    have hx : 1 ≤ x ∧ x ≤ 1099511627776 := by simpa [capB] using hc
    split
    · exact ⟨d0, u0, h0, sum, one, cap⟩
    · rename_i hg
      rcases hij with ⟨rfl, rfl⟩ | ⟨rfl, rfl⟩ | ⟨rfl, rfl⟩ | ⟨rfl, rfl⟩ | ⟨rfl, rfl⟩ <;> simp only [Led.get] at hg <;> constructor <;> simp only [Led.get, Led.set] <;> omega
theorem Led.new_ok {x : Int} (h : capB x = true) : (Led.mk 0 0 0 x 0).ok := by
  have hx : 1 ≤ x ∧ x ≤ 1099511627776 := by simpa [capB] using h
  constructor <;> dsimp only <;> omega
end Go.Proofs.YthinmbcedgoglaaDoor
