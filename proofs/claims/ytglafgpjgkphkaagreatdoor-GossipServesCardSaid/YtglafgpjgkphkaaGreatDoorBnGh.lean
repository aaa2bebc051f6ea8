/- The package-level errors of the ledger: errors.Is on them, and 'told' (the number of an error). The ledger's rights as plain numbers: In, Out, Rights, New, and the document's. -/
import Derived.Test.YtglafgpjgkphkaaGreatDoorProg
import Derived.WalkKit
import Derived.LaidEql
import Derived.Stop.Asserts
import Derived.KernelRfl
import Derived.Test.YtglafgpjgkphkaaGreatDoorMix
import Derived.Test.YtglafgpjgkphkaaGreatDoorMq
namespace Go.Proofs.YtglafgpjgkphkaaGreatDoor
section
open Go.RowKit Go.Extern.Stop Go.Stop Go.Extern

theorem isTypeOf (v : Value) (w : World) : (Extern.ReflectliteType.typeOf #[.iface 181 v]).run Tryz.prog w = .ok (.iface 162 (.agg #[.pointer (some ⟨3, 181, none⟩)])) w := by kernel_rfl
def cmpExt : Array Value → Sem Value := Extern.ReflectliteType.method fun t => do Extern.Rtype.noPackHeld "Comparable" t; pure (.bool (← typeInfo t).comparable)
theorem isComparable (w : World) : (cmpExt #[.agg #[.pointer (some ⟨3, 181, none⟩)]]).run Tryz.prog w = .ok (.bool true) w := by kernel_rfl
theorem isMethodComparable (v : Value) (w : World) : (Go.method 317 162 v "Comparable").run Tryz.prog w = .ok (114, v) w := by kernel_rfl
theorem isComp : (Tryz.prog.info? 181).map (·.comparable) = some true := by kernel_rfl
theorem isSize : (Tryz.prog.info? 205).map (·.size) = some 1 := by kernel_rfl
theorem noIsE (v : Value) (xT : TypeId) (w : World) : (Instr.typeAssert (.iface 181 v) xT 164 true).run Tryz.prog w = .ok (.tuple #[.nilIface, .bool false]) w := run_typeAssert_lacksB Tryz.underlying164 (by kernel_rfl) (by kernel_rfl) v xT w
theorem noUnwrapE (v : Value) (xT : TypeId) (w : World) : (Instr.typeAssert (.iface 181 v) xT 167 true).run Tryz.prog w = .ok (.tuple #[.nilIface, .bool false]) w := run_typeAssert_lacksB Tryz.underlying167 (by kernel_rfl) (by kernel_rfl) v xT w
theorem noUnwrapsE (v : Value) (xT : TypeId) (w : World) : (Instr.typeAssert (.iface 181 v) xT 169 true).run Tryz.prog w = .ok (.tuple #[.nilIface, .bool false]) w := run_typeAssert_lacksB Tryz.underlying169 (by kernel_rfl) (by kernel_rfl) v xT w

theorem is_same (a : Addr) (w : World) :
    Calls Tryz.prog 59 #[.iface 181 (.pointer (some a)), .iface 181 (.pointer (some a))] w fun e w' => e = .returned (.bool true) ∧ w' = w := by
  obtain ⟨i, hi, hcmp⟩ := Option.map_eq_some_iff.1 isComp
  obtain ⟨j, hj, hjs⟩ := Option.map_eq_some_iff.1 isSize
  have h8 := @run_callFunc_extern Tryz.prog 71 _ Extern.ReflectliteType.typeOf Tryz.func71 (by kernel_rfl) (by kernel_rfl) (by kernel_rfl) (by kernel_rfl)
  have h32 := @run_callFunc_extern Tryz.prog 114 _ cmpExt Tryz.func114 (by kernel_rfl) (by kernel_rfl) (by kernel_rfl) (by kernel_rfl)
  have tT := isTypeOf
  have cT := isComparable
  have mR := isMethodComparable
  have heq := run_eql_iface_ptr_same (P := Tryz.prog) w a Tryz.underlying100 Tryz.underlying181 hi hcmp hj
  go_enter Tryz.func59, Tryz.ntmps59
  go_wp2
  refine wp_loop_rounds 1 ?_
  rw [rounds_succ]
  go_wp2
  go_ret
  exact ⟨rfl, rfl⟩

theorem is_nil (b : Addr) (w : World) :
    Calls Tryz.prog 59 #[.nilIface, .iface 181 (.pointer (some b))] w fun e w' => e = .returned (.bool false) ∧ w' = w := by
  have hn := run_eql_iface_nil_left (P := Tryz.prog) w 181 (.pointer (some b)) Tryz.underlying100
  go_enter Tryz.func59, Tryz.ntmps59
  go_wp2
  go_ret
  exact ⟨rfl, rfl⟩

theorem is_other (a b : Addr) (ca cb : Array Value) (ta tb : TypeId) (w : World) (hne : a ≠ b) (ha : w.heap[a.block]? = some (.cells ca ta (0, 0))) (hb : w.heap[b.block]? = some (.cells cb tb (0, 0))) :
    Calls Tryz.prog 59 #[.iface 181 (.pointer (some a)), .iface 181 (.pointer (some b))] w fun e w' => e = .returned (.bool false) ∧ w' = w := by
  obtain ⟨i, hi, hcmp⟩ := Option.map_eq_some_iff.1 isComp
  obtain ⟨j, hj, hjs⟩ := Option.map_eq_some_iff.1 isSize
  have h8 := @run_callFunc_extern Tryz.prog 71 _ Extern.ReflectliteType.typeOf Tryz.func71 (by kernel_rfl) (by kernel_rfl) (by kernel_rfl) (by kernel_rfl)
  have h32 := @run_callFunc_extern Tryz.prog 114 _ cmpExt Tryz.func114 (by kernel_rfl) (by kernel_rfl) (by kernel_rfl) (by kernel_rfl)
  have tT := isTypeOf
  have cT := isComparable
  have mR := isMethodComparable
  have nE := noIsE
  have uE := noUnwrapE
  have vE := noUnwrapsE
  have heq := run_eql_iface_ptr_other (P := Tryz.prog) w Tryz.underlying100 Tryz.underlying181 hi hcmp hj (by rw [hjs]; decide) hne ha hb
  go_enter Tryz.func59, Tryz.ntmps59
  go_wp2
  refine wp_loop_rounds 1 ?_
  rw [rounds_succ]
  go_wp2
  go_ret
  exact ⟨rfl, rfl⟩

/-- The three errors lie where the variables point, each by itself, all of them below block b0. -/
structure Sents (b0 : Nat) (w : World) (a0 a1 a2 : Addr) : Prop where
  g0 : w.cell? ⟨0, 0, none⟩ = some (.iface 181 (.pointer (some a0)))
  g1 : w.cell? ⟨1, 0, none⟩ = some (.iface 181 (.pointer (some a1)))
  g2 : w.cell? ⟨2, 0, none⟩ = some (.iface 181 (.pointer (some a2)))
  n01 : a0 ≠ a1
  n02 : a0 ≠ a2
  n12 : a1 ≠ a2
  h0 : ∃ c t, w.heap[a0.block]? = some (.cells c t (0, 0))
  h1 : ∃ c t, w.heap[a1.block]? = some (.cells c t (0, 0))
  h2 : ∃ c t, w.heap[a2.block]? = some (.cells c t (0, 0))
  l0 : a0.block < b0
  l1 : a1.block < b0
  l2 : a2.block < b0
  lg0 : 0 < b0
  lg1 : 1 < b0
  lg2 : 2 < b0

theorem Sents.below {b0 : Nat} {w w' : World} {a0 a1 a2 : Addr} (h : Sents b0 w a0 a1 a2) (hb : Below b0 w w') : Sents b0 w' a0 a1 a2 :=
  ⟨(hb.cell (p := ⟨_, 0, none⟩) h.lg0).trans h.g0, (hb.cell (p := ⟨_, 0, none⟩) h.lg1).trans h.g1, (hb.cell (p := ⟨_, 0, none⟩) h.lg2).trans h.g2, h.n01, h.n02, h.n12,
    by rw [hb.block _ h.l0]; exact h.h0, by rw [hb.block _ h.l1]; exact h.h1, by rw [hb.block _ h.l2]; exact h.h2, h.l0, h.l1, h.l2, h.lg0, h.lg1, h.lg2⟩

theorem told_arg {b0 : Nat} {w : World} {a0 a1 a2 : Addr} (h : Sents b0 w a0 a1 a2) :
    Calls Tryz.prog 42 #[.iface 181 (.pointer (some a0))] w fun e w' => e = .returned (.int .i64 1) ∧ w' = w := by
  have hg := h.g0
  go_enter Tryz.func42, Tryz.ntmps42
  go_wp2_with (go_at_call 59; refine (is_same _ _).mono ?_; rintro e w' ⟨rfl, rfl⟩)
  go_ret
  exact ⟨rfl, rfl⟩

theorem told_rights {b0 : Nat} {w : World} {a0 a1 a2 : Addr} (h : Sents b0 w a0 a1 a2) :
    Calls Tryz.prog 42 #[.iface 181 (.pointer (some a1))] w fun e w' => e = .returned (.int .i64 60) ∧ w' = w := by
  have hg := h.g0
  have hg1 := h.g1
  obtain ⟨c0, t0, hh0⟩ := h.h0
  obtain ⟨c1, t1, hh1⟩ := h.h1
  go_enter Tryz.func42, Tryz.ntmps42
  go_wp2_with fail
  refine (is_other _ _ _ _ _ _ _ (Ne.symm h.n01) hh1 hh0).mono ?_
  rintro e w' ⟨rfl, rfl⟩
  go_wp2_with fail
  refine (is_same _ _).mono ?_
  rintro e w' ⟨rfl, rfl⟩
  go_wp2
  go_ret
  exact ⟨rfl, rfl⟩

theorem told_cap {b0 : Nat} {w : World} {a0 a1 a2 : Addr} (h : Sents b0 w a0 a1 a2) :
    Calls Tryz.prog 42 #[.iface 181 (.pointer (some a2))] w fun e w' => e = .returned (.int .i64 61) ∧ w' = w := by
  have hg := h.g0
  have hg1 := h.g1
  have hg2 := h.g2
  obtain ⟨c0, t0, hh0⟩ := h.h0
  obtain ⟨c1, t1, hh1⟩ := h.h1
  obtain ⟨c2, t2, hh2⟩ := h.h2
  go_enter Tryz.func42, Tryz.ntmps42
  go_wp2_with fail
  refine (is_other _ _ _ _ _ _ _ (Ne.symm h.n02) hh2 hh0).mono ?_
  rintro e w' ⟨rfl, rfl⟩
  go_wp2_with fail
  refine (is_other _ _ _ _ _ _ _ (Ne.symm h.n12) hh2 hh1).mono ?_
  rintro e w' ⟨rfl, rfl⟩
  go_wp2_with fail
  refine (is_same _ _).mono ?_
  rintro e w' ⟨rfl, rfl⟩
  go_wp2
  go_ret
  exact ⟨rfl, rfl⟩

theorem told_nil {b0 : Nat} {w : World} {a0 a1 a2 : Addr} (h : Sents b0 w a0 a1 a2) :
    Calls Tryz.prog 42 #[.nilIface] w fun e w' => e = .returned (.int .i64 0) ∧ w' = w := by
  have hg := h.g0
  have hg1 := h.g1
  have hg2 := h.g2
  go_enter Tryz.func42, Tryz.ntmps42
  go_wp2_with (go_at_call 59; refine (is_nil _ _).mono ?_; rintro e w' ⟨rfl, rfl⟩)
  go_ret
  exact ⟨rfl, rfl⟩
end
section
set_option maxRecDepth 100000
set_option linter.unusedSimpArgs false
set_option linter.unusedVariables false
set_option maxHeartbeats 2000000
open Go.RowKit

structure Led where
  d : Int
  u : Int
  h : Int
  lim : Int
  n : Int
abbrev Led.cells (s : Led) : Array Value := #[.int .i64 s.d, .int .i64 s.u, .int .i64 s.h, .int .i64 s.lim, .int .i64 s.n]
abbrev Led.sv (s : Led) : List SV := [.int .i64 s.d, .int .i64 s.u, .int .i64 s.h, .int .i64 s.lim, .int .i64 s.n]
structure Led.ok (s : Led) : Prop where
  d0 : 0 ≤ s.d
  u0 : 0 ≤ s.u
  h0 : 0 ≤ s.h
  sum : s.d + s.u + s.h ≤ s.lim
  one : 1 ≤ s.lim
  cap : s.lim ≤ 1099511627776
inductive LErr where
  | ok | arg | rights | cap
def LErr.num : LErr → Int
  | .ok => 0 | .arg => 1 | .rights => 60 | .cap => 61
def LErr.val (a0 a1 a2 : Addr) : LErr → Value
  | .ok => .nilIface
  | .arg => .iface 181 (.pointer (some a0))
  | .rights => .iface 181 (.pointer (some a1))
  | .cap => .iface 181 (.pointer (some a2))
theorem told_ok {b0 : Nat} {w : World} {a0 a1 a2 : Addr} (h : Sents b0 w a0 a1 a2) (x : LErr) :
    Calls Tryz.prog 42 #[x.val a0 a1 a2] w fun e w' => e = .returned (.int .i64 x.num) ∧ Frm [] w w' := by
  have fin : ∀ {e : Ending} {w' : World} {v : Value}, e = .returned v ∧ w' = w → e = .returned v ∧ Frm [] w w' := fun ⟨h1, h2⟩ => ⟨h1, h2 ▸ Frm.refl _ _⟩
  cases x
  · exact (told_nil h).mono fun _ _ => fin
  · exact (told_arg h).mono fun _ _ => fin
  · exact (told_rights h).mono fun _ _ => fin
  · exact (told_cap h).mono fun _ _ => fin
theorem Sents.frm {b0 : Nat} {w w' : World} {a0 a1 a2 : Addr} (h : Sents b0 w a0 a1 a2) {S : List Nat} (hf : Frm S w w') (hS : ∀ x ∈ S, b0 ≤ x) (hB : b0 ≤ w.heap.size) : Sents b0 w' a0 a1 a2 :=
  h.below (hf.below hB hS)
theorem aggErr : aggB Tryz.prog 100 = some false := by kernel_rfl
theorem ledInv {b N : Nat} {os : List (Nat × Odr)} {w : World} {s : Led} (hb : Blk w b s.cells 80) : Inv (cx N os [b] w) w [b] [⟨80, s.sv, true⟩] := (Inv.nil w).cons (by simp) rfl hb (by simp)
def capB (n : Int) : Bool := decide (1 ≤ n ∧ n ≤ 1099511627776)
theorem caps_ok (n : Int) (w : World) : Calls Tryz.prog 41 #[.int .i64 n] w fun e w' => e = .returned (.bool (capB n)) ∧ Frm [] w w' := by
  have hI := Inv.nil (P := Tryz.prog) (N := 8) (S := []) (os := []) w
  refine calls_sm (cx 8 [] [] w) (vals := [.int .i64 n]) mixed Tryz.func41 rfl rfl rfl hI rfl (st rfl ?_); conv => arg 3; whnf
  refine n_ret0 rfl rfl fun ids' w' hp hI' => ⟨ret_bool ?_, hI'.frm⟩
  unfold capB
  rw [Bool.eq_iff_iff]
  simp
  omega
def Led.in_ (s : Led) (x y : Int) : Led × LErr :=
  if min x y < 0 then (s, .arg) else if s.lim - s.d - s.u - s.h < max x y then (s, .cap) else if s.lim - s.d - s.u - s.h < x + y then (s, .cap) else ({ s with d := s.d + x, u := s.u + y }, .ok)
theorem in_ok {b0 b : Nat} {w : World} {a0 a1 a2 : Addr} (hs : Sents b0 w a0 a1 a2) (hb0 : b0 ≤ b) (hB : b0 ≤ w.heap.size) (s : Led) (ok : s.ok) (hb : Blk w b s.cells 80) (x y : Int) :
    Calls Tryz.prog 43 #[.pointer (some ⟨b, 0, none⟩), .agg #[.int .i64 x, .int .i64 y]] w fun e w' => e = .returned ((s.in_ x y).2.val a0 a1 a2) ∧ Frm [b] w w' ∧ Blk w' b (s.in_ x y).1.cells 80 := by
  obtain ⟨d, u, k, lim, n⟩ := s
  obtain ⟨d0, u0, h0, sum, one, cap⟩ := ok
  dsimp only at d0 u0 h0 sum one cap
  have hI := ledInv (N := 67) (os := []) hb
  have e1 : IntKind.i64.wrap (IntKind.i64.wrap (IntKind.i64.wrap (lim - d) - u) - k) = lim - d - u - k := by rw [w64 (n := lim - d) (by omega) (by omega), w64 (n := lim - d - u) (by omega) (by omega), w64 (by omega) (by omega)]
  refine calls_sm (cx 67 [] [b] w) (vals := [.ptr 0 0, .agg [.int .i64 x, .int .i64 y]]) mixed Tryz.func43 rfl rfl rfl hI rfl (st rfl ?_); conv => arg 3; whnf
  refine n_br (fun h1 => ?_) (fun h1 => ?_) <;> simp at h1 <;> (refine gs ?_)
  · refine n_ld (.raw _) rfl rfl (fun w' hf => load_cell aggErr ((hs.frm hf (by simpa using hb0) hB).g0)) ?_
    (refine gs ?_)
    have e : (Led.mk d u k lim n).in_ x y = (Led.mk d u k lim n, .arg) := by simp only [Led.in_]; rw [if_pos (by omega)]
    rw [e]
    exact n_ret0 rfl rfl fun ids' w' hp hI' => ⟨rfl, hI'.frm, hI'.blk_at hp 0 rfl rfl rfl⟩
  · refine n_chk (drawF_ok (by decide +kernel)) ?_
    (refine gs ?_)
    refine n_br (fun h2 => ?_) (fun h2 => ?_) <;> rw [e1] at h2 <;> simp only [decide_eq_true_eq, decide_eq_false_iff_not] at h2 <;> (refine gs ?_)
    · refine n_ld (.raw _) rfl rfl (fun w' hf => load_cell aggErr ((hs.frm hf (by simpa using hb0) hB).g2)) ?_
      (refine gs ?_)
      have e : (Led.mk d u k lim n).in_ x y = (Led.mk d u k lim n, .cap) := by simp only [Led.in_]; rw [if_neg (by omega), if_pos (by omega)]
      rw [e]
      exact n_ret0 rfl rfl fun ids' w' hp hI' => ⟨rfl, hI'.frm, hI'.blk_at hp 0 rfl rfl rfl⟩
    · refine n_br (fun h3 => ?_) (fun h3 => ?_) <;> rw [e1, w64 (n := x + y) (by omega) (by omega)] at h3 <;> simp only [decide_eq_true_eq, decide_eq_false_iff_not] at h3 <;> (refine gs ?_)
      · refine n_ld (.raw _) rfl rfl (fun w' hf => load_cell aggErr ((hs.frm hf (by simpa using hb0) hB).g2)) ?_
        (refine gs ?_)
        have e : (Led.mk d u k lim n).in_ x y = (Led.mk d u k lim n, .cap) := by simp only [Led.in_]; rw [if_neg (by omega), if_neg (by omega), if_pos (by omega)]
        rw [e]
        exact n_ret0 rfl rfl fun ids' w' hp hI' => ⟨rfl, hI'.frm, hI'.blk_at hp 0 rfl rfl rfl⟩
      · refine n_chk (drawF_ok (by decide +kernel)) ?_
        (refine gs ?_)
        refine n_chk (drawF_ok (by decide +kernel)) ?_
        (refine gs ?_)
        have e : (Led.mk d u k lim n).in_ x y = (Led.mk (d + x) (u + y) k lim n, .ok) := by simp only [Led.in_]; rw [if_neg (by omega), if_neg (by omega), if_neg (by omega)]
        rw [e]
        refine n_ret0 rfl rfl fun ids' w' hp hI' => ⟨rfl, hI'.frm, ?_⟩
        have hB := hI'.blk_at hp 0 rfl rfl rfl
        rw [w64 (n := d + x) (by omega) (by omega), w64 (n := u + y) (by omega) (by omega)] at hB
        exact hB
def Led.out (s : Led) (x y : Int) : Led × LErr :=
  if min x y < 0 then (s, .arg) else if s.d < x then (s, .rights) else if s.u < y then (s, .rights) else ({ s with d := s.d - x, u := s.u - y }, .ok)
theorem out_ok {b0 b : Nat} {w : World} {a0 a1 a2 : Addr} (hs : Sents b0 w a0 a1 a2) (hb0 : b0 ≤ b) (hB : b0 ≤ w.heap.size) (s : Led) (ok : s.ok) (hb : Blk w b s.cells 80) (x y : Int) :
    Calls Tryz.prog 55 #[.pointer (some ⟨b, 0, none⟩), .agg #[.int .i64 x, .int .i64 y]] w fun e w' => e = .returned ((s.out x y).2.val a0 a1 a2) ∧ Frm [b] w w' ∧ Blk w' b (s.out x y).1.cells 80 := by
  obtain ⟨d, u, k, lim, n⟩ := s
  obtain ⟨d0, u0, h0, sum, one, cap⟩ := ok
  dsimp only at d0 u0 h0 sum one cap
  have hI := ledInv (N := 47) (os := []) hb
  refine calls_sm (cx 47 [] [b] w) (vals := [.ptr 0 0, .agg [.int .i64 x, .int .i64 y]]) mixed Tryz.func55 rfl rfl rfl hI rfl (st rfl ?_); conv => arg 3; whnf
  refine n_br (fun h1 => ?_) (fun h1 => ?_) <;> simp at h1 <;> (refine gs ?_)
  · refine n_ld (.raw _) rfl rfl (fun w' hf => load_cell aggErr ((hs.frm hf (by simpa using hb0) hB).g0)) ?_
    (refine gs ?_)
    have e : (Led.mk d u k lim n).out x y = (Led.mk d u k lim n, .arg) := by simp only [Led.out]; rw [if_pos (by omega)]
    rw [e]
    exact n_ret0 rfl rfl fun ids' w' hp hI' => ⟨rfl, hI'.frm, hI'.blk_at hp 0 rfl rfl rfl⟩
  · refine n_chk (drawF_ok (by decide +kernel)) ?_
    (refine gs ?_)
    refine n_br (fun h2 => ?_) (fun h2 => ?_) <;> simp at h2 <;> (refine gs ?_)
    · refine n_ld (.raw _) rfl rfl (fun w' hf => load_cell aggErr ((hs.frm hf (by simpa using hb0) hB).g1)) ?_
      (refine gs ?_)
      have e : (Led.mk d u k lim n).out x y = (Led.mk d u k lim n, .rights) := by simp only [Led.out]; rw [if_neg (by omega), if_pos (by omega)]
      rw [e]
      exact n_ret0 rfl rfl fun ids' w' hp hI' => ⟨rfl, hI'.frm, hI'.blk_at hp 0 rfl rfl rfl⟩
    · refine n_br (fun h3 => ?_) (fun h3 => ?_) <;> simp at h3 <;> (refine gs ?_)
      · refine n_ld (.raw _) rfl rfl (fun w' hf => load_cell aggErr ((hs.frm hf (by simpa using hb0) hB).g1)) ?_
        (refine gs ?_)
        have e : (Led.mk d u k lim n).out x y = (Led.mk d u k lim n, .rights) := by simp only [Led.out]; rw [if_neg (by omega), if_neg (by omega), if_pos (by omega)]
        rw [e]
        exact n_ret0 rfl rfl fun ids' w' hp hI' => ⟨rfl, hI'.frm, hI'.blk_at hp 0 rfl rfl rfl⟩
      · refine n_chk (drawF_ok (by decide +kernel)) ?_
        (refine gs ?_)
        refine n_chk (drawF_ok (by decide +kernel)) ?_
        (refine gs ?_)
        have e : (Led.mk d u k lim n).out x y = (Led.mk (d - x) (u - y) k lim n, .ok) := by simp only [Led.out]; rw [if_neg (by omega), if_neg (by omega), if_neg (by omega)]
        rw [e]
        refine n_ret0 rfl rfl fun ids' w' hp hI' => ⟨rfl, hI'.frm, ?_⟩
        have hB := hI'.blk_at hp 0 rfl rfl rfl
        rw [w64 (n := d - x) (by omega) (by omega), w64 (n := u - y) (by omega) (by omega)] at hB
        exact hB
theorem In_ok {b0 b : Nat} {w : World} {a0 a1 a2 : Addr} (hs : Sents b0 w a0 a1 a2) (hb0 : b0 ≤ b) (hB : b0 ≤ w.heap.size) (s : Led) (ok : s.ok) (hb : Blk w b s.cells 80) (x y : Int) :
    Calls Tryz.prog 19 #[.pointer (some ⟨b, 0, none⟩), .agg #[.int .i64 x, .int .i64 y]] w fun e w' => e = .returned (.int .i64 (s.in_ x y).2.num) ∧ Frm [b] w w' ∧ Blk w' b (s.in_ x y).1.cells 80 := by
  have hI := ledInv (N := 9) (os := []) hb
  refine calls_sm (cx 9 [] [b] w) (vals := [.ptr 0 0, .agg [.int .i64 x, .int .i64 y]]) mixed Tryz.func19 rfl rfl rfl hI rfl (st rfl ?_); conv => arg 3; whnf
  refine n_updP 0 (.raw ((s.in_ x y).2.val a0 a1 a2)) (s.in_ x y).1.sv rfl rfl rfl rfl rfl rfl rfl (fun _ w1 hp1 hI1 => in_ok (hs.frm hI1.frm (by simpa using hb0) hB) hb0 (Nat.le_trans hB hI1.frm.size) s ok (hI1.blk_at hp1 0 rfl rfl rfl) x y) ?_
  generalize s.in_ x y = r
  (refine gs ?_)
  refine n_sameP (.int .i64 r.2.num) rfl rfl rfl (fun _ w1 hp1 hI1 => told_ok (hs.frm hI1.frm (by simpa using hb0) hB) r.2) ?_
  (refine gs ?_)
  exact n_ret0 rfl rfl fun ids' w' hp hI' => ⟨rfl, hI'.frm, hI'.blk_at hp 0 rfl rfl rfl⟩
theorem Out_ok {b0 b : Nat} {w : World} {a0 a1 a2 : Addr} (hs : Sents b0 w a0 a1 a2) (hb0 : b0 ≤ b) (hB : b0 ≤ w.heap.size) (s : Led) (ok : s.ok) (hb : Blk w b s.cells 80) (x y : Int) :
    Calls Tryz.prog 34 #[.pointer (some ⟨b, 0, none⟩), .agg #[.int .i64 x, .int .i64 y]] w fun e w' => e = .returned (.int .i64 (s.out x y).2.num) ∧ Frm [b] w w' ∧ Blk w' b (s.out x y).1.cells 80 := by
  have hI := ledInv (N := 9) (os := []) hb
  refine calls_sm (cx 9 [] [b] w) (vals := [.ptr 0 0, .agg [.int .i64 x, .int .i64 y]]) mixed Tryz.func34 rfl rfl rfl hI rfl (st rfl ?_); conv => arg 3; whnf
  refine n_updP 0 (.raw ((s.out x y).2.val a0 a1 a2)) (s.out x y).1.sv rfl rfl rfl rfl rfl rfl rfl (fun _ w1 hp1 hI1 => out_ok (hs.frm hI1.frm (by simpa using hb0) hB) hb0 (Nat.le_trans hB hI1.frm.size) s ok (hI1.blk_at hp1 0 rfl rfl rfl) x y) ?_
  generalize s.out x y = r
  (refine gs ?_)
  refine n_sameP (.int .i64 r.2.num) rfl rfl rfl (fun _ w1 hp1 hI1 => told_ok (hs.frm hI1.frm (by simpa using hb0) hB) r.2) ?_
  (refine gs ?_)
  exact n_ret0 rfl rfl fun ids' w' hp hI' => ⟨rfl, hI'.frm, hI'.blk_at hp 0 rfl rfl rfl⟩
theorem Rights_ok {b : Nat} {w : World} (s : Led) (hb : Blk w b s.cells 80) :
    Calls Tryz.prog 11 #[.pointer (some ⟨b, 0, none⟩)] w fun e w' => e = .returned (.agg #[.int .i64 s.d, .int .i64 s.u]) ∧ Frm [] w w' := by
  have hI : Inv (cx 12 [] [] w) w [b] [⟨80, s.sv, false⟩] := (Inv.nil w).cons (by simp) rfl hb (by simp)
  refine calls_sm (cx 12 [] [] w) (vals := [.ptr 0 0]) mixed Tryz.func11 rfl rfl rfl hI rfl (st rfl ?_); conv => arg 3; whnf
  refine n_chk (drawF_ok (by decide +kernel)) ?_
  (refine gs ?_)
  exact n_ret0 rfl rfl fun ids' w' hp hI' => ⟨rfl, hI'.frm⟩
theorem New_ok (x : Int) (w : World) :
    Calls Tryz.prog 17 #[.int .i64 x] w fun e w' => (capB x = false ∧ e = .returned (.tuple #[.pointer none, .int .i64 1]) ∧ Frm [] w w') ∨
      (capB x = true ∧ ∃ b, w.heap.size ≤ b ∧ e = .returned (.tuple #[.pointer (some ⟨b, 0, none⟩), .int .i64 0]) ∧ Frm [] w w' ∧ Blk w' b (Led.mk 0 0 0 x 0).cells 80) := by
  have hI := Inv.nil (P := Tryz.prog) (N := 10) (S := []) (os := []) w
  refine calls_sm (cx 10 [] [] w) (vals := [.int .i64 x]) mixed Tryz.func17 rfl rfl rfl hI rfl (st rfl ?_); conv => arg 3; whnf
  refine n_sameP (.bool (capB x)) rfl rfl rfl (fun _ w1 _ _ => caps_ok x w1) ?_
  (refine gs ?_)
  refine n_br (fun h1 => ?_) (fun h1 => ?_) <;> simp at h1 <;> (refine gs ?_)
  · exact n_ret0 rfl rfl fun ids' w' hp hI' => .inl ⟨h1, rfl, hI'.frm⟩
  · refine n_ret rfl fun ids' w' hp hI' => ?_
    obtain ⟨b, rfl⟩ := ext1 hp hI'.len
    refine ⟨_, rfl, .inr ⟨h1, b, ?_, rfl, hI'.frm, hI'.blk_at (List.prefix_refl _) 0 rfl rfl rfl⟩⟩
    rcases hI'.owned 0 _ b rfl rfl rfl with h | h
    · cases h
    · exact h
theorem Led.in_ok {s : Led} (h : s.ok) (x y : Int) : (s.in_ x y).1.ok := by
  obtain ⟨d0, u0, h0, sum, one, cap⟩ := h
  unfold Led.in_
  split
  · exact ⟨d0, u0, h0, sum, one, cap⟩
  · split
    · exact ⟨d0, u0, h0, sum, one, cap⟩
    · split
      · exact ⟨d0, u0, h0, sum, one, cap⟩
      · constructor <;> dsimp only <;> omega
theorem Led.out_ok {s : Led} (h : s.ok) (x y : Int) : (s.out x y).1.ok := by
  obtain ⟨d0, u0, h0, sum, one, cap⟩ := h
  unfold Led.out
  split
  · exact ⟨d0, u0, h0, sum, one, cap⟩
  · split
    · exact ⟨d0, u0, h0, sum, one, cap⟩
    · split
      · exact ⟨d0, u0, h0, sum, one, cap⟩
      · constructor <;> dsimp only <;> omega
theorem Led.new_ok {x : Int} (h : capB x = true) : (Led.mk 0 0 0 x 0).ok := by
  have hx : 1 ≤ x ∧ x ≤ 1099511627776 := by simpa [capB] using h
  constructor <;> dsimp only <;> omega
theorem refInv {b N : Nat} {os : List (Nat × Odr)} {w : World} {s : Led} (hb : Blk w b s.cells 118) : Inv (cx N os [b] w) w [b] [⟨118, s.sv, true⟩] := (Inv.nil w).cons (by simp) rfl hb (by simp)
theorem rNew_ok (x : Int) (w : World) :
    Calls Tryz.prog 26 #[.int .i64 x] w fun e w' => (capB x = false ∧ e = .returned (.tuple #[.pointer none, .int .i64 1]) ∧ Frm [] w w') ∨
      (capB x = true ∧ ∃ b, w.heap.size ≤ b ∧ e = .returned (.tuple #[.pointer (some ⟨b, 0, none⟩), .int .i64 0]) ∧ Frm [] w w' ∧ Blk w' b (Led.mk 0 0 0 x 0).cells 118) := by
  have hI := Inv.nil (P := Tryz.prog) (N := 13) (S := []) (os := []) w
  refine calls_sm (cx 13 [] [] w) (vals := [.int .i64 x]) mixed Tryz.func26 rfl rfl rfl hI rfl (st rfl ?_); conv => arg 3; whnf
  refine n_br (fun h1 => ?_) (fun h1 => ?_) <;> simp at h1 <;> (refine gs ?_)
  · exact n_ret0 rfl rfl fun ids' w' hp hI' => .inl ⟨by simp [capB]; omega, rfl, hI'.frm⟩
  · refine n_br (fun h2 => ?_) (fun h2 => ?_) <;> simp at h2 <;> (refine gs ?_)
    · exact n_ret0 rfl rfl fun ids' w' hp hI' => .inl ⟨by simp [capB]; omega, rfl, hI'.frm⟩
    · refine n_ret rfl fun ids' w' hp hI' => ?_
      obtain ⟨b, rfl⟩ := ext1 hp hI'.len
      refine ⟨_, rfl, .inr ⟨by simp [capB]; omega, b, ?_, rfl, hI'.frm, hI'.blk_at (List.prefix_refl _) 0 rfl rfl rfl⟩⟩
      rcases hI'.owned 0 _ b rfl rfl rfl with h | h
      · cases h
      · exact h
theorem New_1 (x : Int) (hx : capB x = true) (w : World) :
    Calls Tryz.prog 17 #[.int .i64 x] w fun e w' => ∃ b, w.heap.size ≤ b ∧ e = .returned (.tuple #[.pointer (some ⟨b, 0, none⟩), .int .i64 0]) ∧ Frm [] w w' ∧ Blk w' b (Led.mk 0 0 0 x 0).cells 80 :=
  (New_ok x w).mono fun _ _ h => by
    rcases h with ⟨h, _⟩ | ⟨_, h⟩
    · rw [hx] at h; cases h
    · exact h
theorem New_0 (x : Int) (hx : capB x = false) (w : World) :
    Calls Tryz.prog 17 #[.int .i64 x] w fun e w' => e = .returned (.tuple #[.pointer none, .int .i64 1]) ∧ Frm [] w w' :=
  (New_ok x w).mono fun _ _ h => by
    rcases h with ⟨_, h⟩ | ⟨h, _⟩
    · exact h
    · rw [hx] at h; cases h
theorem rNew_1 (x : Int) (hx : capB x = true) (w : World) :
    Calls Tryz.prog 26 #[.int .i64 x] w fun e w' => ∃ b, w.heap.size ≤ b ∧ e = .returned (.tuple #[.pointer (some ⟨b, 0, none⟩), .int .i64 0]) ∧ Frm [] w w' ∧ Blk w' b (Led.mk 0 0 0 x 0).cells 118 :=
  (rNew_ok x w).mono fun _ _ h => by
    rcases h with ⟨h, _⟩ | ⟨_, h⟩
    · rw [hx] at h; cases h
    · exact h
theorem rNew_0 (x : Int) (hx : capB x = false) (w : World) :
    Calls Tryz.prog 26 #[.int .i64 x] w fun e w' => e = .returned (.tuple #[.pointer none, .int .i64 1]) ∧ Frm [] w w' :=
  (rNew_ok x w).mono fun _ _ h => by
    rcases h with ⟨_, h⟩ | ⟨h, _⟩
    · exact h
    · rw [hx] at h; cases h
theorem rall_ok {b : Nat} {w : World} (s : Led) (ok : s.ok) (hb : Blk w b s.cells 118) :
    Calls Tryz.prog 54 #[.pointer (some ⟨b, 0, none⟩)] w fun e w' => e = .returned (.int .i64 (s.d + s.u + s.h)) ∧ Frm [] w w' := by
  obtain ⟨d, u, k, lim, n⟩ := s
  obtain ⟨d0, u0, h0, sum, one, cap⟩ := ok
  dsimp only at d0 u0 h0 sum one cap
  have hI : Inv (cx 20 [] [] w) w [b] [⟨118, (Led.mk d u k lim n).sv, false⟩] := (Inv.nil w).cons (by simp) rfl hb (by simp)
  refine calls_sm (cx 20 [] [] w) (vals := [.ptr 0 0]) mixed Tryz.func54 rfl rfl rfl hI rfl (st rfl ?_); conv => arg 3; whnf
  (repeat (first | ((first | refine n_must rfl ?_ | refine n_chk (drawF_ok (by decide +kernel)) ?_ | refine n_same rfl ?_); (refine gs ?_))))
  exact n_ret0 rfl rfl fun ids' w' hp hI' => ⟨ret_int (by show _ = d + u + k; rw [w64 (n := d + u) (by omega) (by omega)]; exact w64 (n := d + u + k) (by omega) (by omega)), hI'.frm⟩
theorem rRights_ok {b : Nat} {w : World} (s : Led) (hb : Blk w b s.cells 118) :
    Calls Tryz.prog 31 #[.pointer (some ⟨b, 0, none⟩)] w fun e w' => e = .returned (.agg #[.int .i64 s.d, .int .i64 s.u]) ∧ Frm [] w w' := by
  have hI : Inv (cx 14 [] [] w) w [b] [⟨118, s.sv, false⟩] := (Inv.nil w).cons (by simp) rfl hb (by simp)
  refine calls_sm (cx 14 [] [] w) (vals := [.ptr 0 0]) mixed Tryz.func31 rfl rfl rfl hI rfl (st rfl ?_); conv => arg 3; whnf
  (repeat (first | ((first | refine n_must rfl ?_ | refine n_chk (drawF_ok (by decide +kernel)) ?_ | refine n_same rfl ?_); (refine gs ?_))))
  exact n_ret0 rfl rfl fun ids' w' hp hI' => ⟨rfl, hI'.frm⟩
theorem rIn_ok {b : Nat} {w : World} (s : Led) (ok : s.ok) (hb : Blk w b s.cells 118) (x y : Int) :
    Calls Tryz.prog 33 #[.pointer (some ⟨b, 0, none⟩), .agg #[.int .i64 x, .int .i64 y]] w fun e w' => e = .returned (.int .i64 (s.in_ x y).2.num) ∧ Frm [b] w w' ∧ Blk w' b (s.in_ x y).1.cells 118 := by
  have ok' := ok
  obtain ⟨d, u, k, lim, n⟩ := s
  obtain ⟨d0, u0, h0, sum, one, cap⟩ := ok
  dsimp only at d0 u0 h0 sum one cap
  have hI := refInv (N := 58) (os := [(3, .of [(0, []), (1, []), (2, []), (3, []), (4, []), (5, [3]), (6, []), (7, [])])]) hb
  refine calls_sm (cx 58 [(3, .of [(0, []), (1, []), (2, []), (3, []), (4, []), (5, [3]), (6, []), (7, [])])] [b] w) (vals := [.ptr 0 0, .agg [.int .i64 x, .int .i64 y]]) mixed Tryz.func33 rfl rfl rfl hI rfl (st rfl ?_); conv => arg 3; whnf
  refine n_br (fun h1 => ?_) (fun h1 => ?_) <;> simp at h1 <;> (refine gs ?_)
  · have e : (Led.mk d u k lim n).in_ x y = (Led.mk d u k lim n, .arg) := by simp only [Led.in_]; rw [if_pos (by omega)]
    rw [e]
    exact n_ret0 rfl rfl fun ids' w' hp hI' => ⟨rfl, hI'.frm, hI'.blk_at hp 0 rfl rfl rfl⟩
  · refine n_br (fun h2 => ?_) (fun h2 => ?_) <;> simp at h2 <;> (refine gs ?_)
    · have e : (Led.mk d u k lim n).in_ x y = (Led.mk d u k lim n, .arg) := by simp only [Led.in_]; rw [if_pos (by omega)]
      rw [e]
      exact n_ret0 rfl rfl fun ids' w' hp hI' => ⟨rfl, hI'.frm, hI'.blk_at hp 0 rfl rfl rfl⟩
    · refine n_chk (by decide +kernel) ?_
      (refine gs ?_)
      refine n_sameP (.int .i64 (d + u + k)) rfl rfl rfl (fun _ w1 hp1 hI1 => rall_ok (Led.mk d u k lim n) ok' (hI1.blk_at hp1 0 rfl rfl rfl)) ?_
      (refine gs ?_)
      (repeat (first | ((first | refine n_must rfl ?_ | refine n_chk (drawF_ok (by decide +kernel)) ?_ | refine n_same rfl ?_); (refine gs ?_))))
      have e1 : IntKind.i64.wrap (lim - (d + u + k)) = lim - (d + u + k) := w64 (by omega) (by omega)
      refine n_br (fun h3 => ?_) (fun h3 => ?_) <;> rw [e1] at h3 <;> simp at h3 <;> (refine gs ?_)
      · have e : (Led.mk d u k lim n).in_ x y = (Led.mk d u k lim n, .cap) := by simp only [Led.in_]; rw [if_neg (by omega), if_pos (by omega)]
        rw [e]
        exact n_ret0 rfl rfl fun ids' w' hp hI' => ⟨rfl, hI'.frm, hI'.blk_at hp 0 rfl rfl rfl⟩
      · refine n_br (fun h4 => ?_) (fun h4 => ?_) <;> rw [e1, w64 (n := lim - (d + u + k) - x) (by omega) (by omega)] at h4 <;> simp at h4 <;> (refine gs ?_)
        · have e : (Led.mk d u k lim n).in_ x y = (Led.mk d u k lim n, .cap) := by
            simp only [Led.in_]; rw [if_neg (by omega)]
            split
            · rfl
            · rw [if_pos (by omega)]
          rw [e]
          exact n_ret0 rfl rfl fun ids' w' hp hI' => ⟨rfl, hI'.frm, hI'.blk_at hp 0 rfl rfl rfl⟩
        · (repeat (first | ((first | refine n_must rfl ?_ | refine n_chk (drawF_ok (by decide +kernel)) ?_ | refine n_same rfl ?_); (refine gs ?_))))
          have e : (Led.mk d u k lim n).in_ x y = (Led.mk (d + x) (u + y) k lim n, .ok) := by simp only [Led.in_]; rw [if_neg (by omega), if_neg (by omega), if_neg (by omega)]
          rw [e]
          refine n_ret0 rfl rfl fun ids' w' hp hI' => ⟨rfl, hI'.frm, ?_⟩
          have hB := hI'.blk_at hp 0 rfl rfl rfl
          rw [w64 (n := d + x) (by omega) (by omega), w64 (n := u + y) (by omega) (by omega)] at hB
          exact hB
theorem rOut_ok {b : Nat} {w : World} (s : Led) (ok : s.ok) (hb : Blk w b s.cells 118) (x y : Int) :
    Calls Tryz.prog 35 #[.pointer (some ⟨b, 0, none⟩), .agg #[.int .i64 x, .int .i64 y]] w fun e w' => e = .returned (.int .i64 (s.out x y).2.num) ∧ Frm [b] w w' ∧ Blk w' b (s.out x y).1.cells 118 := by
  obtain ⟨d, u, k, lim, n⟩ := s
  obtain ⟨d0, u0, h0, sum, one, cap⟩ := ok
  dsimp only at d0 u0 h0 sum one cap
  have hI := refInv (N := 55) (os := []) hb
  refine calls_sm (cx 55 [] [b] w) (vals := [.ptr 0 0, .agg [.int .i64 x, .int .i64 y]]) mixed Tryz.func35 rfl rfl rfl hI rfl (st rfl ?_); conv => arg 3; whnf
  refine n_br (fun h1 => ?_) (fun h1 => ?_) <;> simp at h1 <;> (refine gs ?_)
  · have e : (Led.mk d u k lim n).out x y = (Led.mk d u k lim n, .arg) := by simp only [Led.out]; rw [if_pos (by omega)]
    rw [e]
    exact n_ret0 rfl rfl fun ids' w' hp hI' => ⟨rfl, hI'.frm, hI'.blk_at hp 0 rfl rfl rfl⟩
  · refine n_br (fun h2 => ?_) (fun h2 => ?_) <;> simp at h2 <;> (refine gs ?_)
    · have e : (Led.mk d u k lim n).out x y = (Led.mk d u k lim n, .arg) := by simp only [Led.out]; rw [if_pos (by omega)]
      rw [e]
      exact n_ret0 rfl rfl fun ids' w' hp hI' => ⟨rfl, hI'.frm, hI'.blk_at hp 0 rfl rfl rfl⟩
    · (repeat (first | ((first | refine n_must rfl ?_ | refine n_chk (drawF_ok (by decide +kernel)) ?_ | refine n_same rfl ?_); (refine gs ?_))))
      refine n_br (fun h3 => ?_) (fun h3 => ?_) <;> simp at h3 <;> (refine gs ?_)
      · have e : (Led.mk d u k lim n).out x y = (Led.mk d u k lim n, .rights) := by simp only [Led.out]; rw [if_neg (by omega), if_pos (by omega)]
        rw [e]
        exact n_ret0 rfl rfl fun ids' w' hp hI' => ⟨rfl, hI'.frm, hI'.blk_at hp 0 rfl rfl rfl⟩
      · (repeat (first | ((first | refine n_must rfl ?_ | refine n_chk (drawF_ok (by decide +kernel)) ?_ | refine n_same rfl ?_); (refine gs ?_))))
        refine n_br (fun h4 => ?_) (fun h4 => ?_) <;> simp at h4 <;> (refine gs ?_)
        · have e : (Led.mk d u k lim n).out x y = (Led.mk d u k lim n, .rights) := by simp only [Led.out]; rw [if_neg (by omega), if_neg (by omega), if_pos (by omega)]
          rw [e]
          exact n_ret0 rfl rfl fun ids' w' hp hI' => ⟨rfl, hI'.frm, hI'.blk_at hp 0 rfl rfl rfl⟩
        · (repeat (first | ((first | refine n_must rfl ?_ | refine n_chk (drawF_ok (by decide +kernel)) ?_ | refine n_same rfl ?_); (refine gs ?_))))
          have e : (Led.mk d u k lim n).out x y = (Led.mk (d - x) (u - y) k lim n, .ok) := by simp only [Led.out]; rw [if_neg (by omega), if_neg (by omega), if_neg (by omega)]
          rw [e]
          refine n_ret0 rfl rfl fun ids' w' hp hI' => ⟨rfl, hI'.frm, ?_⟩
          have hB := hI'.blk_at hp 0 rfl rfl rfl
          rw [w64 (n := d - x) (by omega) (by omega), w64 (n := u - y) (by omega) (by omega)] at hB
          exact hB
end
end Go.Proofs.YtglafgpjgkphkaaGreatDoor
