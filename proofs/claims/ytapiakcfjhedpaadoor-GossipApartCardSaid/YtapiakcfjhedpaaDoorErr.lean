/- The package-level errors of the ledger: errors.Is on them, and 'told' (the number of an error). -/
import Derived.Test.YtapiakcfjhedpaaDoorProg
import Derived.WalkKit
import Derived.LaidEql
import Derived.Stop.Asserts
import Derived.KernelRfl
namespace Go.Proofs.YtapiakcfjhedpaaDoor
open Go.RowKit Go.Extern.Stop Go.Stop Go.Extern

theorem isTypeOf (v : Value) (w : World) : (Extern.ReflectliteType.typeOf #[.iface 145 v]).run Tryd.prog w = .ok (.iface 131 (.agg #[.pointer (some ⟨3, 145, none⟩)])) w := by kernel_rfl
def cmpExt : Array Value → Sem Value := Extern.ReflectliteType.method fun t => do Extern.Rtype.noPackHeld "Comparable" t; pure (.bool (← typeInfo t).comparable)
theorem isComparable (w : World) : (cmpExt #[.agg #[.pointer (some ⟨3, 145, none⟩)]]).run Tryd.prog w = .ok (.bool true) w := by kernel_rfl
theorem isMethodComparable (v : Value) (w : World) : (Go.method 282 131 v "Comparable").run Tryd.prog w = .ok (91, v) w := by kernel_rfl
theorem isComp : (Tryd.prog.info? 145).map (·.comparable) = some true := by kernel_rfl
theorem isSize : (Tryd.prog.info? 170).map (·.size) = some 1 := by kernel_rfl
theorem noIsE (v : Value) (xT : TypeId) (w : World) : (Instr.typeAssert (.iface 145 v) xT 133 true).run Tryd.prog w = .ok (.tuple #[.nilIface, .bool false]) w := run_typeAssert_lacksB Tryd.underlying133 (by kernel_rfl) (by kernel_rfl) v xT w
theorem noUnwrapE (v : Value) (xT : TypeId) (w : World) : (Instr.typeAssert (.iface 145 v) xT 136 true).run Tryd.prog w = .ok (.tuple #[.nilIface, .bool false]) w := run_typeAssert_lacksB Tryd.underlying136 (by kernel_rfl) (by kernel_rfl) v xT w
theorem noUnwrapsE (v : Value) (xT : TypeId) (w : World) : (Instr.typeAssert (.iface 145 v) xT 138 true).run Tryd.prog w = .ok (.tuple #[.nilIface, .bool false]) w := run_typeAssert_lacksB Tryd.underlying138 (by kernel_rfl) (by kernel_rfl) v xT w

theorem is_same (a : Addr) (w : World) :
    Calls Tryd.prog 58 #[.iface 145 (.pointer (some a)), .iface 145 (.pointer (some a))] w fun e w' => e = .returned (.bool true) ∧ w' = w := by
  obtain ⟨i, hi, hcmp⟩ := Option.map_eq_some_iff.1 isComp
  obtain ⟨j, hj, hjs⟩ := Option.map_eq_some_iff.1 isSize
  have h8 := @run_callFunc_extern Tryd.prog 63 _ Extern.ReflectliteType.typeOf Tryd.func63 (by kernel_rfl) (by kernel_rfl) (by kernel_rfl) (by kernel_rfl)
  have h32 := @run_callFunc_extern Tryd.prog 91 _ cmpExt Tryd.func91 (by kernel_rfl) (by kernel_rfl) (by kernel_rfl) (by kernel_rfl)
  have tT := isTypeOf
  have cT := isComparable
  have mR := isMethodComparable
  have heq := run_eql_iface_ptr_same (P := Tryd.prog) w a Tryd.underlying105 Tryd.underlying145 hi hcmp hj
  go_enter Tryd.func58, Tryd.ntmps58
  go_wp2
  refine wp_loop_rounds 1 ?_
  rw [rounds_succ]
  go_wp2
  go_ret
  exact ⟨rfl, rfl⟩

theorem is_nil (b : Addr) (w : World) :
    Calls Tryd.prog 58 #[.nilIface, .iface 145 (.pointer (some b))] w fun e w' => e = .returned (.bool false) ∧ w' = w := by
  have hn := run_eql_iface_nil_left (P := Tryd.prog) w 145 (.pointer (some b)) Tryd.underlying105
  go_enter Tryd.func58, Tryd.ntmps58
  go_wp2
  go_ret
  exact ⟨rfl, rfl⟩

theorem is_other (a b : Addr) (ca cb : Array Value) (ta tb : TypeId) (w : World) (hne : a ≠ b) (ha : w.heap[a.block]? = some (.cells ca ta (0, 0))) (hb : w.heap[b.block]? = some (.cells cb tb (0, 0))) :
    Calls Tryd.prog 58 #[.iface 145 (.pointer (some a)), .iface 145 (.pointer (some b))] w fun e w' => e = .returned (.bool false) ∧ w' = w := by
  obtain ⟨i, hi, hcmp⟩ := Option.map_eq_some_iff.1 isComp
  obtain ⟨j, hj, hjs⟩ := Option.map_eq_some_iff.1 isSize
  have h8 := @run_callFunc_extern Tryd.prog 63 _ Extern.ReflectliteType.typeOf Tryd.func63 (by kernel_rfl) (by kernel_rfl) (by kernel_rfl) (by kernel_rfl)
  have h32 := @run_callFunc_extern Tryd.prog 91 _ cmpExt Tryd.func91 (by kernel_rfl) (by kernel_rfl) (by kernel_rfl) (by kernel_rfl)
  have tT := isTypeOf
  have cT := isComparable
  have mR := isMethodComparable
  have nE := noIsE
  have uE := noUnwrapE
  have vE := noUnwrapsE
  have heq := run_eql_iface_ptr_other (P := Tryd.prog) w Tryd.underlying105 Tryd.underlying145 hi hcmp hj (by rw [hjs]; decide) hne ha hb
  go_enter Tryd.func58, Tryd.ntmps58
  go_wp2
  refine wp_loop_rounds 1 ?_
  rw [rounds_succ]
  go_wp2
  go_ret
  exact ⟨rfl, rfl⟩

/-- The three errors lie where the variables point, each by itself, all of them below block b0. -/
structure Sents (b0 : Nat) (w : World) (a0 a1 a2 : Addr) : Prop where
  g0 : w.cell? ⟨0, 0, none⟩ = some (.iface 145 (.pointer (some a0)))
  g1 : w.cell? ⟨1, 0, none⟩ = some (.iface 145 (.pointer (some a1)))
  g2 : w.cell? ⟨2, 0, none⟩ = some (.iface 145 (.pointer (some a2)))
  n01 : a0 ≠ a1
  n02 : a0 ≠ a2
  n12 : a1 ≠ a2
  h0 : ∃ c t, w.heap[a0.block]? = some (.cells c t (0, 0))
  h1 : ∃ c t, w.heap[a1.block]? = some (.cells c t (0, 0))
  h2 : ∃ c t, w.heap[a2.block]? = some (.cells c t (0, 0))
  l0 : a0.block < b0
  l1 : a1.block < b0
  l2 : a2.block < b0
  lg0 : 0 < b0
  lg1 : 1 < b0
  lg2 : 2 < b0

theorem Sents.below {b0 : Nat} {w w' : World} {a0 a1 a2 : Addr} (h : Sents b0 w a0 a1 a2) (hb : Below b0 w w') : Sents b0 w' a0 a1 a2 :=
  ⟨(hb.cell (p := ⟨_, 0, none⟩) h.lg0).trans h.g0, (hb.cell (p := ⟨_, 0, none⟩) h.lg1).trans h.g1, (hb.cell (p := ⟨_, 0, none⟩) h.lg2).trans h.g2, h.n01, h.n02, h.n12,
    by rw [hb.block _ h.l0]; exact h.h0, by rw [hb.block _ h.l1]; exact h.h1, by rw [hb.block _ h.l2]; exact h.h2, h.l0, h.l1, h.l2, h.lg0, h.lg1, h.lg2⟩

theorem told_arg {b0 : Nat} {w : World} {a0 a1 a2 : Addr} (h : Sents b0 w a0 a1 a2) :
    Calls Tryd.prog 45 #[.iface 145 (.pointer (some a0))] w fun e w' => e = .returned (.int .i64 1) ∧ w' = w := by
  have hg := h.g0
  go_enter Tryd.func45, Tryd.ntmps45
  go_wp2_with (go_at_call 58; refine (is_same _ _).mono ?_; rintro e w' ⟨rfl, rfl⟩)
  go_ret
  exact ⟨rfl, rfl⟩

theorem told_rights {b0 : Nat} {w : World} {a0 a1 a2 : Addr} (h : Sents b0 w a0 a1 a2) :
    Calls Tryd.prog 45 #[.iface 145 (.pointer (some a1))] w fun e w' => e = .returned (.int .i64 60) ∧ w' = w := by
  have hg := h.g0
  have hg1 := h.g1
  obtain ⟨c0, t0, hh0⟩ := h.h0
  obtain ⟨c1, t1, hh1⟩ := h.h1
  go_enter Tryd.func45, Tryd.ntmps45
  go_wp2_with fail
  refine (is_other _ _ _ _ _ _ _ (Ne.symm h.n01) hh1 hh0).mono ?_
  rintro e w' ⟨rfl, rfl⟩
  go_wp2_with fail
  refine (is_same _ _).mono ?_
  rintro e w' ⟨rfl, rfl⟩
  go_wp2
  go_ret
  exact ⟨rfl, rfl⟩

theorem told_cap {b0 : Nat} {w : World} {a0 a1 a2 : Addr} (h : Sents b0 w a0 a1 a2) :
    Calls Tryd.prog 45 #[.iface 145 (.pointer (some a2))] w fun e w' => e = .returned (.int .i64 61) ∧ w' = w := by
  have hg := h.g0
  have hg1 := h.g1
  have hg2 := h.g2
  obtain ⟨c0, t0, hh0⟩ := h.h0
  obtain ⟨c1, t1, hh1⟩ := h.h1
  obtain ⟨c2, t2, hh2⟩ := h.h2
  go_enter Tryd.func45, Tryd.ntmps45
  go_wp2_with fail
  refine (is_other _ _ _ _ _ _ _ (Ne.symm h.n02) hh2 hh0).mono ?_
  rintro e w' ⟨rfl, rfl⟩
  go_wp2_with fail
  refine (is_other _ _ _ _ _ _ _ (Ne.symm h.n12) hh2 hh1).mono ?_
  rintro e w' ⟨rfl, rfl⟩
  go_wp2_with fail
  refine (is_same _ _).mono ?_
  rintro e w' ⟨rfl, rfl⟩
  go_wp2
  go_ret
  exact ⟨rfl, rfl⟩

theorem told_nil {b0 : Nat} {w : World} {a0 a1 a2 : Addr} (h : Sents b0 w a0 a1 a2) :
    Calls Tryd.prog 45 #[.nilIface] w fun e w' => e = .returned (.int .i64 0) ∧ w' = w := by
  have hg := h.g0
  have hg1 := h.g1
  have hg2 := h.g2
  go_enter Tryd.func45, Tryd.ntmps45
  go_wp2_with (go_at_call 58; refine (is_nil _ _).mono ?_; rintro e w' ⟨rfl, rfl⟩)
  go_ret
  exact ⟨rfl, rfl⟩
end Go.Proofs.YtapiakcfjhedpaaDoor
