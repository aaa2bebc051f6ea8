/- Chapter 17's law: a history and effects as arguments. -/
import Derived.Test.YtfcbcgjgkleonaaBnV
import Derived.Test.YtfcbcgjgkleonaaBnR
set_option maxRecDepth 100000
set_option linter.unusedVariables false
namespace Go.Proofs.Ytfcbcgjgkleonaa
open Go.ChangeShapes Go.WideShapes Go.ChangeAt Go.RowKit

structure Pa.good (p : Pa) : Prop where
  se : i64 p.se
  id : i64 p.id
  nm : p.nm.size ≤ maxLen
  a : i64 p.a
  va : i64 p.va
theorem own : ownKnob Try.prog.godebug = none := by kernel_rfl
theorem cellsPast : Try.prog.cellsOf 55 = 10 := by kernel_rfl
theorem cellsEff : Try.prog.cellsOf 52 = 9 := by kernel_rfl
theorem bytesPast : Try.prog.bytesOf 55 = 88 := by kernel_rfl
theorem bytesEff : Try.prog.bytesOf 52 = 80 := by kernel_rfl
section
variable {H : Type} {enc : TypeId × Value → H} {w : World} {base : Nat} {spare : Nat → Bool} {held : Bool} {v : Value} {d : DataW H} {p : List MemPlace}
theorem open_past (hv : Value.okWide Try.prog w .any base 22 v) (h : DataW.Trod enc Try.prog w 0 spare held 22 v d p) {ts : List TypeId} {ds : List (DataW H)}
    (hz : (DataW.weightsEach Try.prog ts ds).all (· ≤ reachBytes) = true) {j : Nat} (h1 : ts[j]? = some 22) (h2 : ds[j]? = some d) :
    ∃ (o : Option Addr) (L : List Pa) (cap : Nat), v = .slice o L.length cap ∧ (paRes o L).R w ∧ (∀ x ∈ (paRes o L).fp, x < w.heap.size) ∧ L.length ≤ 1599289640354 ∧ ∀ p ∈ L, p.good := by
  obtain ⟨o, n, cap, f, rfl, hle, hcap, hsl, hfit⟩ := open_leaves (ls := [.int .i64, .int .i64, .int .i64, .str, .int .i64, .int .i64, .int .i64, .int .i64, .int .i64, .int .i64]) 5 Try.underlying22 (by kernel_rfl) cellsPast (by simp) hv h
  let g : Nat → Pa := fun i => ⟨intOfV ((f i).getD 0 default), intOfV ((f i).getD 1 default), intOfV ((f i).getD 2 default), strOfV ((f i).getD 3 default), intOfV ((f i).getD 4 default), intOfV ((f i).getD 5 default), intOfV ((f i).getD 6 default), intOfV ((f i).getD 7 default), intOfV ((f i).getD 8 default), intOfV ((f i).getD 9 default)⟩
  have key : ∀ i, i < n → f i = (g i).l ∧ (g i).good := by
    intro i hi
    obtain ⟨v0, r0, e0, ⟨x0, rfl, w0⟩, h0⟩ := (hfit i hi).inv
    obtain ⟨v1, r1, rfl, ⟨x1, rfl, w1⟩, h1⟩ := h0.inv
    obtain ⟨v2, r2, rfl, ⟨x2, rfl, w2⟩, h2⟩ := h1.inv
    obtain ⟨v3, r3, rfl, ⟨x3, rfl, w3⟩, h3⟩ := h2.inv
    obtain ⟨v4, r4, rfl, ⟨x4, rfl, w4⟩, h4⟩ := h3.inv
    obtain ⟨v5, r5, rfl, ⟨x5, rfl, w5⟩, h5⟩ := h4.inv
    obtain ⟨v6, r6, rfl, ⟨x6, rfl, w6⟩, h6⟩ := h5.inv
    obtain ⟨v7, r7, rfl, ⟨x7, rfl, w7⟩, h7⟩ := h6.inv
    obtain ⟨v8, r8, rfl, ⟨x8, rfl, w8⟩, h8⟩ := h7.inv
    obtain ⟨v9, r9, rfl, ⟨x9, rfl, w9⟩, h9⟩ := h8.inv
    obtain rfl := h9.inv0
    simp only [g]
    rw [e0]
    exact ⟨rfl, wf_i64 w0, wf_i64 w1, w3, wf_i64 w4, wf_i64 w9⟩
  have hb := len_reach Try.underlying22 h hz h1 h2
  rw [bytesPast] at hb
  have hre : reachBytes = 140737488351232 := rfl
  have hlen : ((List.range n).map g).length = n := by simp
  refine ⟨o, (List.range n).map g, cap, by rw [hlen], rd_of_raw (by decide) pa_len hsl fun i hi => (key i hi).1, ?_, by rw [hlen]; omega, ?_⟩
  · exact rd_lt (rd_of_raw (by decide) pa_len hsl fun i hi => (key i hi).1)
  · intro q hq
    obtain ⟨i, hi, rfl⟩ := List.mem_map.1 hq
    exact (key i (by simpa using hi)).2
theorem open_eff (hv : Value.okWide Try.prog w .any base 23 v) (h : DataW.Trod enc Try.prog w 0 spare held 23 v d p) {ts : List TypeId} {ds : List (DataW H)}
    (hz : (DataW.weightsEach Try.prog ts ds).all (· ≤ reachBytes) = true) {j : Nat} (h1 : ts[j]? = some 23) (h2 : ds[j]? = some d) :
    ∃ (o : Option Addr) (E : List Ef) (cap : Nat), v = .slice o E.length cap ∧ (efRes o E).R w ∧ (∀ x ∈ (efRes o E).fp, x < w.heap.size) ∧ E.length ≤ 1759218604390 ∧ ∀ e ∈ E, e.good := by
  obtain ⟨o, n, cap, f, rfl, hle, hcap, hsl, hfit⟩ := open_leaves (ls := [.int .i64, .int .i64, .int .i64, .int .i64, .str, .int .i64, .int .i64, .int .i64, .int .i64]) 5 Try.underlying23 (by kernel_rfl) cellsEff (by simp) hv h
  let g : Nat → Ef := fun i => ⟨intOfV ((f i).getD 0 default), intOfV ((f i).getD 1 default), intOfV ((f i).getD 2 default), intOfV ((f i).getD 3 default), strOfV ((f i).getD 4 default), intOfV ((f i).getD 5 default), intOfV ((f i).getD 6 default), intOfV ((f i).getD 7 default), intOfV ((f i).getD 8 default)⟩
  have key : ∀ i, i < n → f i = (g i).l ∧ (g i).good := by
    intro i hi
    obtain ⟨v0, r0, e0, ⟨x0, rfl, w0⟩, h0⟩ := (hfit i hi).inv
    obtain ⟨v1, r1, rfl, ⟨x1, rfl, w1⟩, h1⟩ := h0.inv
    obtain ⟨v2, r2, rfl, ⟨x2, rfl, w2⟩, h2⟩ := h1.inv
    obtain ⟨v3, r3, rfl, ⟨x3, rfl, w3⟩, h3⟩ := h2.inv
    obtain ⟨v4, r4, rfl, ⟨x4, rfl, w4⟩, h4⟩ := h3.inv
    obtain ⟨v5, r5, rfl, ⟨x5, rfl, w5⟩, h5⟩ := h4.inv
    obtain ⟨v6, r6, rfl, ⟨x6, rfl, w6⟩, h6⟩ := h5.inv
    obtain ⟨v7, r7, rfl, ⟨x7, rfl, w7⟩, h7⟩ := h6.inv
    obtain ⟨v8, r8, rfl, ⟨x8, rfl, w8⟩, h8⟩ := h7.inv
    obtain rfl := h8.inv0
    simp only [g]
    rw [e0]
    exact ⟨rfl, wf_i64 w1, wf_i64 w2, w4, wf_i64 w5, wf_i64 w8⟩
  have hb := len_reach Try.underlying23 h hz h1 h2
  rw [bytesEff] at hb
  have hre : reachBytes = 140737488351232 := rfl
  have hlen : ((List.range n).map g).length = n := by simp
  refine ⟨o, (List.range n).map g, cap, by rw [hlen], rd_of_raw (by decide) ef_len hsl fun i hi => (key i hi).1, ?_, by rw [hlen]; omega, ?_⟩
  · exact rd_lt (rd_of_raw (by decide) ef_len hsl fun i hi => (key i hi).1)
  · intro q hq
    obtain ⟨i, hi, rfl⟩ := List.mem_map.1 hq
    exact (key i (by simpa using hi)).2
end
end Go.Proofs.Ytfcbcgjgkleonaa
