/- Chapter 5's law: a script as an argument. -/
import Derived.Test.YtjmaddmklogchaaBnT
import Derived.Test.YtjmaddmklogchaaWkQ
set_option maxRecDepth 100000
set_option linter.unusedVariables false
namespace Go.Proofs.Ytjmaddmklogchaa
open Go.ChangeShapes Go.WideShapes Go.ChangeAt Go.RowKit

theorem own : ownKnob Try.prog.godebug = none := by kernel_rfl
theorem cellsAc : Try.prog.cellsOf 35 = 4 := by kernel_rfl
theorem bytesAc : Try.prog.bytesOf 35 = 32 := by kernel_rfl
section
variable {H : Type} {enc : TypeId × Value → H} {w : World} {base : Nat} {spare : Nat → Bool} {held : Bool} {v : Value} {d : DataW H} {p : List MemPlace}
theorem open_acts (hv : Value.okWide Try.prog w .any base 22 v) (h : DataW.Trod enc Try.prog w 0 spare held 22 v d p) {ts : List TypeId} {ds : List (DataW H)}
    (hz : (DataW.weightsEach Try.prog ts ds).all (· ≤ reachBytes) = true) {j : Nat} (h1 : ts[j]? = some 22) (h2 : ds[j]? = some d) :
    ∃ (o : Option Addr) (L : List Ac) (cap : Nat), v = .slice o L.length cap ∧ (acRes o L).R w ∧ L.length ≤ 9223372036854775806 ∧ ∀ m ∈ L, i64 m.a := by
  obtain ⟨o, n, cap, f, rfl, hle, hcap, hsl, hfit⟩ := open_leaves (ls := [.int .i64, .int .i64, .int .i64, .int .i64]) 5 Try.underlying22 (by kernel_rfl) cellsAc (by simp) hv h
  have hb := len_reach Try.underlying22 h hz h1 h2
  rw [bytesAc] at hb
  have hre : reachBytes = 140737488351232 := rfl
  obtain ⟨L, hL, hat⟩ := list_of (α := Ac) (p := fun i m => f i = m.l ∧ i64 m.a) (n := n) fun i hi => by
    obtain ⟨v0, r0, e0, ⟨x0, rfl, w0⟩, h0⟩ := (hfit i hi).inv
    obtain ⟨v1, r1, rfl, ⟨x1, rfl, w1⟩, h1⟩ := h0.inv
    obtain ⟨v2, r2, rfl, ⟨x2, rfl, w2⟩, h2⟩ := h1.inv
    obtain ⟨v3, r3, rfl, ⟨x3, rfl, w3⟩, h3⟩ := h2.inv
    obtain rfl := h3.inv0
    exact ⟨⟨x0, x1, x2, x3⟩, e0, wf_i64 w1⟩
  refine ⟨o, L, cap, by rw [hL], fun j u hu => ?_, by omega, fun m hm => ?_⟩
  · have hj : j < n * 4 := by
      have := (List.getElem?_eq_some_iff.1 hu).1
      rw [flat_len ac_len, hL] at this
      exact this
    have hil : j / 4 < n := by omega
    have hr : j % 4 < 4 := Nat.mod_lt _ (by omega)
    have e1 : j = j / 4 * 4 + j % 4 := by omega
    have hx1 : L[j / 4]? = some L[j / 4] := List.getElem?_eq_getElem (by omega)
    obtain ⟨hf, _⟩ := hat _ _ hx1
    obtain ⟨a, ha, _, _, hc⟩ := hsl _ hil
    refine ⟨a, ha, ?_⟩
    rw [e1, flat_at ac_len hx1 hr] at hu
    rw [e1]
    exact hc (j % 4) u (by rw [hf]; exact hu)
  · obtain ⟨i, hi⟩ := List.getElem?_of_mem hm
    exact (hat i m hi).2
end
end Go.Proofs.Ytjmaddmklogchaa
