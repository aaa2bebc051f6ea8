/- Cells that are read only. -/
import Derived.Test.YtfcbcgjgkleonaaBs
set_option linter.unusedVariables false
set_option linter.unusedSimpArgs false
namespace Go.Proofs.Ytfcbcgjgkleonaa
open Go.RowKit

def readRes (o : Option Addr) (xs : List Value) : Res where
  fp := match o with | some a => [a.block] | none => []
  R w := ∀ j u, xs[j]? = some u → ∃ a, o = some a ∧ w.cell? (a.add j) = some u
  stable := fun w w' hk h j u hu => by
    obtain ⟨a, ha, hc⟩ := h j u hu
    subst ha
    refine ⟨a, rfl, ?_⟩
    rw [← hc]
    simp only [World.cell?, block_add]
    rw [hk _ (by simp)]
section
variable {α : Type} {f : α → List Value} {size : Nat} {o : Option Addr} {a : Addr} {L : List α} {w : World}
theorem rd_some (hf : ∀ x, (f x).length = size) (h0 : 0 < size) (h : (readRes o (L.flatMap f)).R w) (hn : 0 < L.length) : ∃ a, o = some a := by
  cases L with
  | nil => simp at hn
  | cons x L =>
    have hl : 0 < (f x).length := by rw [hf]; exact h0
    have hx : (f x)[0]? = some (f x)[0] := List.getElem?_eq_getElem hl
    obtain ⟨a, ha, _⟩ := h 0 (f x)[0] (by rw [List.flatMap_cons, List.getElem?_append_left (by rw [hf]; exact h0)]; exact hx)
    exact ⟨a, ha⟩
theorem rd_at (hf : ∀ x, (f x).length = size) (h : (readRes (some a) (L.flatMap f)).R w) {i : Nat} {x : α} (hx : L[i]? = some x) {j : Nat} (hj : j < size) {u : Value} (hu : (f x)[j]? = some u) {ad : Addr} (had : ad = a.add (i * size + j)) : w.cell? ad = some u := by
  obtain ⟨a', ha, hc⟩ := h (i * size + j) u ((flat_at hf hx hj).trans hu)
  simp at ha; subst ha
  rw [had]; exact hc
theorem rd_of_row {e : TypeId} {n cap : Nat} {xs : List Value} (h : (rowRes e size o n cap xs).R w) : (readRes o xs).R w := by
  intro j u hu
  rcases h.2 with ⟨h1, h2⟩ | ⟨g, cap', cur, h1, _⟩
  · have := h.1
    rw [h2] at this
    simp at this
    subst this; simp at hu
  · injection h1 with h1
    subst h1
    exact ⟨_, rfl, rowRes_cell h hu⟩
theorem rd_take {xs : List Value} (h : (readRes o xs).R w) (n : Nat) : (readRes o (xs.take n)).R w := fun j u hu => by
  rw [List.getElem?_take] at hu
  split at hu
  · exact h j u hu
  · cases hu
end
end Go.Proofs.Ytfcbcgjgkleonaa
