/- Chapter 17's law: moves as an argument. -/
import Derived.Test.YtfcbcgjgkleonaaBnT
import Derived.Test.YtfcbcgjgkleonaaCtA
set_option maxRecDepth 100000
set_option linter.unusedVariables false
namespace Go.Proofs.Ytfcbcgjgkleonaa
open Go.ChangeShapes Go.WideShapes Go.ChangeAt Go.RowKit

theorem cellsMove : Try.prog.cellsOf 89 = 7 := by kernel_rfl
theorem bytesMove : Try.prog.bytesOf 89 = 64 := by kernel_rfl
section
variable {H : Type} {enc : TypeId × Value → H} {w : World} {base : Nat} {spare : Nat → Bool} {held : Bool} {v : Value} {d : DataW H} {p : List MemPlace}
theorem open_moves (hv : Value.okWide Try.prog w .any base 40 v) (h : DataW.Trod enc Try.prog w 0 spare held 40 v d p) {ts : List TypeId} {ds : List (DataW H)}
    (hz : (DataW.weightsEach Try.prog ts ds).all (· ≤ reachBytes) = true) {j : Nat} (h1 : ts[j]? = some 40) (h2 : ds[j]? = some d) :
    ∃ (o : Option Addr) (L : List Mv) (cap : Nat), v = .slice o L.length cap ∧ (mvRes o L).R w ∧ L.length ≤ 9223372036854775806 ∧ ∀ m ∈ L, m.good := by
  obtain ⟨o, n, cap, f, rfl, hle, hcap, hsl, hfit⟩ := open_leaves (ls := [.int .i64, .str, .int .i64, .int .i64, .int .i64, .int .i64, .bool]) 5 Try.underlying40 (by kernel_rfl) cellsMove (by simp) hv h
  have hb := len_reach Try.underlying40 h hz h1 h2
  rw [bytesMove] at hb
  have hre : reachBytes = 140737488351232 := rfl
  obtain ⟨L, hL, hat⟩ := list_of (α := Mv) (p := fun i m => f i = m.l ∧ m.good) (n := n) fun i hi => by
    obtain ⟨v0, r0, e0, ⟨x0, rfl, w0⟩, h0⟩ := (hfit i hi).inv
    obtain ⟨v1, r1, rfl, ⟨x1, rfl, w1⟩, h1⟩ := h0.inv
    obtain ⟨v2, r2, rfl, ⟨x2, rfl, w2⟩, h2⟩ := h1.inv
    obtain ⟨v3, r3, rfl, ⟨x3, rfl, w3⟩, h3⟩ := h2.inv
    obtain ⟨v4, r4, rfl, ⟨x4, rfl, w4⟩, h4⟩ := h3.inv
    obtain ⟨v5, r5, rfl, ⟨x5, rfl, w5⟩, h5⟩ := h4.inv
    obtain ⟨v6, r6, rfl, ⟨x6, rfl⟩, h6⟩ := h5.inv
    obtain rfl := h6.inv0
    exact ⟨⟨x0, x1, x2, x3, x4, x5, x6⟩, e0, w1, wf_i64 w2, wf_i64 w4, wf_i64 w5⟩
  refine ⟨o, L, cap, by rw [hL], fun j u hu => ?_, by omega, fun m hm => ?_⟩
  · have hj : j < n * 7 := by
      have := (List.getElem?_eq_some_iff.1 hu).1
      rw [flat_len mv_len, hL] at this
      exact this
    have hil : j / 7 < n := by omega
    have hr : j % 7 < 7 := Nat.mod_lt _ (by omega)
    have e1 : j = j / 7 * 7 + j % 7 := by omega
    have hx1 : L[j / 7]? = some L[j / 7] := List.getElem?_eq_getElem (by omega)
    obtain ⟨hf, _⟩ := hat _ _ hx1
    obtain ⟨a, ha, _, _, hc⟩ := hsl _ hil
    refine ⟨a, ha, ?_⟩
    rw [e1, flat_at mv_len hx1 hr] at hu
    rw [e1]
    exact hc (j % 7) u (by rw [hf]; exact hu)
  · obtain ⟨i, hi⟩ := List.getElem?_of_mem hm
    exact (hat i m hi).2
end
end Go.Proofs.Ytfcbcgjgkleonaa
