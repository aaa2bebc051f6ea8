/- Chapter 17's law: CheckVerifies; a history and effects as arguments. -/
import Derived.Test.YtfcbcgjgkleonaaCkW
import Derived.Test.YtfcbcgjgkleonaaCkY
set_option maxRecDepth 100000
set_option linter.unusedSimpArgs false
set_option linter.unusedVariables false
set_option maxHeartbeats 8000000
namespace Go.Proofs.Ytfcbcgjgkleonaa
open Go.RowKit

theorem CheckVerifies_ok {o : Option Addr} {L : List Pa} {oe : Option Addr} {E : List Ef} {w : World} (cap cape : Nat) (hR : (paRes o L).R w) (hlt : ∀ x ∈ (paRes o L).fp, x < w.heap.size) (hE : (efRes oe E).R w) (hElt : ∀ x ∈ (efRes oe E).fp, x < w.heap.size)
    (hl : L.length ≤ 1599289640390) (hle : E.length ≤ 1759218604390) (hL64 : ∀ p ∈ L, i64 p.se ∧ i64 p.id) (hEg : ∀ e ∈ E, e.good) :
    Calls Try.prog 3 #[.slice o L.length cap, .slice oe E.length cape] w fun x w' => x = .returned (.bool true) ∧ Frm [] w w' := by
  have hI := Inv.nil (P := Try.prog) (N := 11) (S := []) (os := []) w
  have hE1 : ∀ w1, Frm [] w w1 → (efRes oe E).R w1 := fun w1 hf => (efRes oe E).stable _ _ (fun k hk => hf.block k (hElt k hk) (by simp)) hE
  have hElt1 : ∀ w1, Frm [] w w1 → ∀ x ∈ (efRes oe E).fp, x < w1.heap.size := fun w1 hf x hx => Nat.lt_of_lt_of_le (hElt x hx) hf.size
  have hL1 : ∀ w1, Frm [] w w1 → (paRes o L).R w1 := fun w1 hf => (paRes o L).stable _ _ (fun k hk => hf.block k (hlt k hk) (by simp)) hR
  have hLlt1 : ∀ w1, Frm [] w w1 → ∀ x ∈ (paRes o L).fp, x < w1.heap.size := fun w1 hf x hx => Nat.lt_of_lt_of_le (hlt x hx) hf.size
  refine calls_sm (cx 11 [] [] w) (vals := [.raw (.slice o L.length cap), .raw (.slice oe E.length cape)]) mixed Try.func3 rfl rfl rfl hI rfl (st rfl ?_); conv => arg 3; whnf
  refine gg ?_
  refine n_sameP (.bool true) rfl rfl rfl (fun _ w1 hp1 hI1 => able_ok w1) ?_; (refine gs ?_)
  refine gw ?_
  refine n_sameP (.bool true) rfl rfl rfl (fun _ w1 hp1 hI1 => verifies_ok cap cape (hL1 _ hI1.frm) (hLlt1 _ hI1.frm) (hE1 _ hI1.frm) (hElt1 _ hI1.frm) hl hle hL64 hEg) ?_; (refine gs ?_)
  refine gw ?_
  exact n_ret0 rfl rfl fun ids' w' hp hI' => ⟨rfl, hI'.frm⟩
end Go.Proofs.Ytfcbcgjgkleonaa
