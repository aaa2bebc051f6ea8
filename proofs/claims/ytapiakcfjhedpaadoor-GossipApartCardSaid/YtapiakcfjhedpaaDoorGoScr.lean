/- Chapter 12: a script that came in, opened. -/
import Derived.Test.YtapiakcfjhedpaaDoorSent
import Derived.Test.YtapiakcfjhedpaaDoorGoQ
import Derived.Test.YtapiakcfjhedpaaDoorLeaf
set_option maxRecDepth 100000
namespace Go.Proofs.YtapiakcfjhedpaaDoor
open Go.ChangeShapes Go.WideShapes Go.RowKit

theorem own : ownKnob Tryd.prog.godebug = none := by kernel_rfl
theorem cellsOp6 : Tryd.prog.cellsOf 40 = 6 := by kernel_rfl
theorem open_script {H : Type} {enc : TypeId × Value → H} {w : World} {base : Nat} {spare : Nat → Bool} {held : Bool} {v : Value} {d : DataW H} {p : List MemPlace} (hv : Value.okWide Tryd.prog w .any base 22 v)
    (h : DataW.Trod enc Tryd.prog w 0 spare held 22 v d p) : ∃ (o : Option Addr) (n cap : Nat) (f : Nat → Op6), v = .slice o n cap ∧ Scr w o n f := by
  obtain ⟨o, n, cap, f, rfl, hle, hcap, hsl, hfit⟩ := open_leaves (ls := [.int .i64, .int .i64, .int .i64, .str, .int .i64, .int .i64]) 4 Tryd.underlying22 (by kernel_rfl) cellsOp6 (by simp) hv h
  let g : Nat → Op6 := fun i => ⟨intOfV ((f i).getD 0 default), intOfV ((f i).getD 1 default), intOfV ((f i).getD 2 default), strOfV ((f i).getD 3 default), intOfV ((f i).getD 4 default), intOfV ((f i).getD 5 default)⟩
  have key : ∀ i, i < n → f i = (g i).cells ∧ i64 (g i).a ∧ (g i).nm.size ≤ maxLen := by
    intro i hi
    obtain ⟨v0, r0, e0, ⟨x0, rfl, w0⟩, h0⟩ := (hfit i hi).inv
    obtain ⟨v1, r1, rfl, ⟨x1, rfl, w1⟩, h1⟩ := h0.inv
    obtain ⟨v2, r2, rfl, ⟨x2, rfl, w2⟩, h2⟩ := h1.inv
    obtain ⟨v3, r3, rfl, ⟨x3, rfl, w3⟩, h3⟩ := h2.inv
    obtain ⟨v4, r4, rfl, ⟨x4, rfl, w4⟩, h4⟩ := h3.inv
    obtain ⟨v5, r5, rfl, ⟨x5, rfl, w5⟩, h5⟩ := h4.inv
    obtain rfl := h5.inv0
    simp only [g]
    rw [e0]
    exact ⟨rfl, wf_i64 w2, w3⟩
  refine ⟨o, n, cap, g, rfl, ⟨fun i hi => ?_, by omega, fun i hi => (key i hi).2⟩⟩
  obtain ⟨ad, h1, h2, h3, h4⟩ := hsl i hi
  refine ⟨ad, h1, h2, rfl, fun j u hu => h4 j u ?_⟩
  rw [(key i hi).1]; exact hu
end Go.Proofs.YtapiakcfjhedpaaDoor
