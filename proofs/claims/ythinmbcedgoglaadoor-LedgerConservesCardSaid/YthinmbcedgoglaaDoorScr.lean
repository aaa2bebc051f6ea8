/- A script that came in, opened. -/
import Derived.Test.YthinmbcedgoglaaDoorSent
import Derived.Test.YthinmbcedgoglaaDoorLoop
import Derived.Test.YthinmbcedgoglaaDoorLeaf
set_option maxRecDepth 100000
namespace Go.Proofs.YthinmbcedgoglaaDoor
open Go.ChangeShapes Go.WideShapes Go.RowKit

theorem own : ownKnob Tryd.prog.godebug = none := by kernel_rfl
theorem cellsOp : Tryd.prog.cellsOf 47 = 4 := by kernel_rfl
theorem open_script {H : Type} {enc : TypeId × Value → H} {w : World} {base : Nat} {spare : Nat → Bool} {held : Bool} {v : Value} {d : DataW H} {p : List MemPlace} (hv : Value.okWide Tryd.prog w .any base 43 v)
    (h : DataW.Trod enc Tryd.prog w 0 spare held 43 v d p) : ∃ (o : Option Addr) (n cap : Nat) (k who a b : Nat → Int), v = .slice o n cap ∧ Script w o n k who a b ∧ ∀ i, i < n → i64 (k i) ∧ i64 (who i) ∧ i64 (a i) ∧ i64 (b i) := by
  obtain ⟨o, n, cap, f, rfl, hle, hcap, hsl, hfit⟩ := open_leaves (ls := [.int .i64, .int .i64, .int .i64, .int .i64]) 3 Tryd.underlying43 (by kernel_rfl) cellsOp (by simp) hv h
  have key : ∀ i, i < n → f i = [.int .i64 (intOfV ((f i).getD 0 default)), .int .i64 (intOfV ((f i).getD 1 default)), .int .i64 (intOfV ((f i).getD 2 default)), .int .i64 (intOfV ((f i).getD 3 default))] ∧
      i64 (intOfV ((f i).getD 0 default)) ∧ i64 (intOfV ((f i).getD 1 default)) ∧ i64 (intOfV ((f i).getD 2 default)) ∧ i64 (intOfV ((f i).getD 3 default)) := by
    intro i hi
    obtain ⟨v0, r0, e0, ⟨x0, rfl, w0⟩, h0⟩ := (hfit i hi).inv
    obtain ⟨v1, r1, rfl, ⟨x1, rfl, w1⟩, h1⟩ := h0.inv
    obtain ⟨v2, r2, rfl, ⟨x2, rfl, w2⟩, h2⟩ := h1.inv
    obtain ⟨v3, r3, rfl, ⟨x3, rfl, w3⟩, h3⟩ := h2.inv
    obtain rfl := h3.inv0
    rw [e0]
    exact ⟨rfl, wf_i64 w0, wf_i64 w1, wf_i64 w2, wf_i64 w3⟩
  refine ⟨o, n, cap, fun i => intOfV ((f i).getD 0 default), fun i => intOfV ((f i).getD 1 default), fun i => intOfV ((f i).getD 2 default), fun i => intOfV ((f i).getD 3 default), rfl, ⟨fun i hi => ?_, by omega⟩, fun i hi => (key i hi).2⟩
  obtain ⟨ad, h1, h2, h3, h4⟩ := hsl i hi
  refine ⟨ad, h1, h2, rfl, fun j u hu => h4 j u ?_⟩
  rw [(key i hi).1]; exact hu
end Go.Proofs.YthinmbcedgoglaaDoor
