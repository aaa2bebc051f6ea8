/- The ledger's three errors, out of what the row lists. Chapter 12: turns that came in, opened. -/
import Derived.Test.YtglafgpjgkphkaaGreatDoorRows
import Derived.Test.YtglafgpjgkphkaaGreatDoorBnGh
import Derived.Test.YtglafgpjgkphkaaGreatDoorBnW
import Derived.Test.YtglafgpjgkphkaaGreatDoorBnGb
import Derived.Test.YtglafgpjgkphkaaGreatDoorBnV
import Derived.Test.YtglafgpjgkphkaaGreatDoorBnT
namespace Go.Proofs.YtglafgpjgkphkaaGreatDoor
section
set_option maxRecDepth 100000
open Go.ChangeShapes Go.WideShapes Go.RowKit

theorem starE : "*" ++ "errors.errorString" = "*errors.errorString" := by decide
theorem rowE (u : TypeId) (h : Tryz.prog.typeName? 3 u = some "*errors.errorString") : u = 181 :=
  typeName_ptr_named (nm := "errors.errorString") (by rw [starE]; kernel_rfl) (by kernel_rfl) (by decide) u (by rw [starE]; exact h)
theorem cellsES : Tryz.prog.cellsOf 205 = 1 := by kernel_rfl
theorem cellsStr : Tryz.prog.cellsOf 9 = 1 := by kernel_rfl
theorem gArg : Tryz.prog.globalNamed "sluice/ledger.errArg" = some 0 := by kernel_rfl
theorem gRights : Tryz.prog.globalNamed "sluice/ledger.errRights" = some 1 := by kernel_rfl
theorem gCap : Tryz.prog.globalNamed "sluice/ledger.errCap" = some 2 := by kernel_rfl
theorem tArg : (Tryz.prog.globals[0]?).map (·.type) = some 100 := by kernel_rfl
theorem tRights : (Tryz.prog.globals[1]?).map (·.type) = some 100 := by kernel_rfl
theorem tCap : (Tryz.prog.globals[2]?).map (·.type) = some 100 := by kernel_rfl

abbrev laidL : List (String × DataW Unit) := [("sluice/ledger.errArg", Rows.laid_sluice_ledger_errArg), ("sluice/ledger.errRights", Rows.laid_sluice_ledger_errRights), ("sluice/ledger.errCap", Rows.laid_sluice_ledger_errCap)]

theorem door_met (os : Os) (args : Array Value) : laidMetH Tryz.prog laidL ((World.doorLaid Tryz.prog 400 os).forCall (fun _ _ => 0) ⟨#[], args, []⟩).memory :=
  laidMetH_of_parts3 (fuel := 8) (laidMet_of_run' 8 (by kernel_rfl) (by kernel_rfl)) (by kernel_rfl) (by kernel_rfl)

theorem sents_of_laid {W : World} (h : laidMetH Tryz.prog laidL W) : ∃ a0 a1 a2, Sents W.heap.size W a0 a1 a2 := by
  rw [MakeChecks.laidMetH_plain _ _ _ (by kernel_rfl)] at h
  obtain ⟨ps, ⟨g0, t0, cs0, f0, p0, q0, hg0, ht0, hv0, hd0, ⟨g1, t1, cs1, f1, p1, q1, hg1, ht1, hv1, hd1, ⟨g2, t2, cs2, f2, p2, q2, hg2, ht2, hv2, hd2, hq2, e2⟩, e1⟩, e0⟩, hnd, hrows⟩ := h
  obtain rfl := Option.some.inj (gArg.symm.trans hg0)
  obtain rfl := Option.some.inj (gRights.symm.trans hg1)
  obtain rfl := Option.some.inj (gCap.symm.trans hg2)
  obtain rfl := Option.some.inj (tArg.symm.trans ht0)
  obtain rfl := Option.some.inj (tRights.symm.trans ht1)
  obtain rfl := Option.some.inj (tCap.symm.trans ht2)
  have hq2' : q2 = [] := hq2
  subst hq2'
  subst e2
  subst e1
  subst e0
  obtain ⟨l0⟩ := cs0
  obtain ⟨l1⟩ := cs1
  obtain ⟨l2⟩ := cs2
  have ok0 : ∀ u v, l0 = [.iface u v] → Value.okWide Tryz.prog W .any 0 u v := fun u v e => by
    subst e
    exact (hrows 0 0 (by simp [MemPlace.row])).2 u v (by simpa using World.var?_cell hg0 hv0 0)
  have ok1 : ∀ u v, l1 = [.iface u v] → Value.okWide Tryz.prog W .any 0 u v := fun u v e => by
    subst e
    exact (hrows 1 0 (by simp [MemPlace.row])).2 u v (by simpa using World.var?_cell hg1 hv1 0)
  have ok2 : ∀ u v, l2 = [.iface u v] → Value.okWide Tryz.prog W .any 0 u v := fun u v e => by
    subst e
    exact (hrows 2 0 (by simp [MemPlace.row])).2 u v (by simpa using World.var?_cell hg2 hv2 0)
  obtain ⟨a0, s0, rfl, hc0, hs0, hz0, rfl⟩ := errorString_of_trod Tryz.underlying100 rowE Tryz.underlying181 Tryz.underlying205 rfl rfl Tryz.underlying9 cellsES cellsStr hd0 ok0
  obtain ⟨a1, s1, rfl, hc1, hs1, hz1, rfl⟩ := errorString_of_trod Tryz.underlying100 rowE Tryz.underlying181 Tryz.underlying205 rfl rfl Tryz.underlying9 cellsES cellsStr hd1 ok1
  obtain ⟨a2, s2, rfl, hc2, hs2, hz2, rfl⟩ := errorString_of_trod Tryz.underlying100 rowE Tryz.underlying181 Tryz.underlying205 rfl rfl Tryz.underlying9 cellsES cellsStr hd2 ok2
  obtain ⟨c0, t0, hb0⟩ := (hrows a0.block a0.off (by simp [MemPlace.row])).1
  obtain ⟨c1, t1, hb1⟩ := (hrows a1.block a1.off (by simp [MemPlace.row])).1
  obtain ⟨c2, t2, hb2⟩ := (hrows a2.block a2.off (by simp [MemPlace.row])).1
  have lt : ∀ {b : Nat} {o : Obj}, W.heap[b]? = some o → b < W.heap.size := fun h => (Array.getElem?_eq_some_iff.1 h).1
  have glt : ∀ {g : Nat} {v : Value}, W.cell? ⟨g, 0, none⟩ = some v → g < W.heap.size := fun {g v} h => by
    rcases Nat.lt_or_ge g W.heap.size with h' | h'
    · exact h'
    · simp [World.cell?, Array.getElem?_eq_none h'] at h
  have k0 := World.var?_cell hg0 hv0 0
  have k1 := World.var?_cell hg1 hv1 0
  have k2 := World.var?_cell hg2 hv2 0
  refine ⟨a0, a1, a2, by simpa using k0, by simpa using k1, by simpa using k2, ?_, ?_, ?_, ⟨c0, t0, hb0⟩, ⟨c1, t1, hb1⟩, ⟨c2, t2, hb2⟩, lt hb0, lt hb1, lt hb2, glt (by simpa using k0), glt (by simpa using k1), glt (by simpa using k2)⟩
  · rintro rfl; simp [MemPlace.row] at hnd
  · rintro rfl; simp [MemPlace.row] at hnd
  · rintro rfl; simp [MemPlace.row] at hnd
end
section
set_option maxRecDepth 100000
set_option linter.unusedVariables false
open Go.ChangeShapes Go.WideShapes Go.RowKit

theorem own : ownKnob Tryz.prog.godebug = none := by kernel_rfl
theorem cellsTy : Tryz.prog.cellsOf 29 = 4 := by kernel_rfl
theorem open_turns {H : Type} {enc : TypeId × Value → H} {w : World} {base : Nat} {spare : Nat → Bool} {held : Bool} {v : Value} {d : DataW H} {p : List MemPlace} (hv : Value.okWide Tryz.prog w .any base 22 v)
    (h : DataW.Trod enc Tryz.prog w 0 spare held 22 v d p) : ∃ (o : Option Addr) (L : List Ty) (cap : Nat), v = .slice o L.length cap ∧ (tyRes o L).R w ∧ L.length ≤ 9223372036854775807 ∧ ∀ m ∈ L, m.good := by
  obtain ⟨o, n, cap, f, rfl, hle, hcap, hsl, hfit⟩ := open_leaves (ls := [.int .i64, .int .i64, .int .i64, .int .i64]) 4 Tryz.underlying22 (by kernel_rfl) cellsTy (by simp) hv h
  obtain ⟨L, hL, hat⟩ := list_of (α := Ty) (p := fun i m => f i = m.l ∧ m.good) (n := n) fun i hi => by
    obtain ⟨v0, r0, e0, ⟨x0, rfl, w0⟩, h0⟩ := (hfit i hi).inv
    obtain ⟨v1, r1, rfl, ⟨x1, rfl, w1⟩, h1⟩ := h0.inv
    obtain ⟨v2, r2, rfl, ⟨x2, rfl, w2⟩, h2⟩ := h1.inv
    obtain ⟨v3, r3, rfl, ⟨x3, rfl, w3⟩, h3⟩ := h2.inv
    obtain rfl := h3.inv0
    exact ⟨⟨x0, x1, x2, x3⟩, e0, wf_i64 w0, wf_i64 w1, wf_i64 w2, wf_i64 w3⟩
  refine ⟨o, L, cap, by rw [hL], fun j u hu => ?_, by omega, fun m hm => ?_⟩
  · have hj : j < n * 4 := by
      have := (List.getElem?_eq_some_iff.1 hu).1
      rw [flat_len ty_len, hL] at this
      exact this
    have hil : j / 4 < n := by omega
    have hr : j % 4 < 4 := Nat.mod_lt _ (by omega)
    have e1 : j = j / 4 * 4 + j % 4 := by omega
    have hx1 : L[j / 4]? = some L[j / 4] := List.getElem?_eq_getElem (by omega)
    obtain ⟨hf, _⟩ := hat _ _ hx1
    obtain ⟨a, ha, _, _, hc⟩ := hsl _ hil
    refine ⟨a, ha, ?_⟩
    rw [e1, flat_at ty_len hx1 hr] at hu
    rw [e1]
    exact hc (j % 4) u (by rw [hf]; exact hu)
  · obtain ⟨i, hi⟩ := List.getElem?_of_mem hm
    exact (hat i m hi).2
end
end Go.Proofs.YtglafgpjgkphkaaGreatDoor
