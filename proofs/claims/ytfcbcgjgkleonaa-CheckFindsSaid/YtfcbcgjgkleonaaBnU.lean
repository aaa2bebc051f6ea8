/- Cells that are read only. -/
import Derived.Test.YtfcbcgjgkleonaaBs
set_option linter.unusedVariables false
set_option linter.unusedSimpArgs false
namespace Go.Proofs.Ytfcbcgjgkleonaa
open Go.RowKit

/-- (No cells: no block.) -/
def readRes (o : Option Addr) (xs : List Value) : Res where
  fp := match o with | some a => (if xs.isEmpty then [] else [a.block]) | none => []
  R w := ∀ j u, xs[j]? = some u → ∃ a, o = some a ∧ w.cell? (a.add j) = some u
  stable := fun w w' hk h j u hu => by
    obtain ⟨a, ha, hc⟩ := h j u hu
    subst ha
    refine ⟨a, rfl, ?_⟩
    rw [← hc]
    simp only [World.cell?, block_add]
    rw [hk _ (by
      have h0 : xs.isEmpty = false := by cases xs with
        | nil => simp at hu
        | cons _ _ => rfl
      simp [h0])]
theorem rd_fp {a : Addr} {xs : List Value} {x : Nat} (h : x ∈ (readRes (some a) xs).fp) : x = a.block := by
  simp only [readRes] at h
  split at h
  · cases h
  · simpa using h
theorem rd_lt {o : Option Addr} {xs : List Value} {w : World} (h : (readRes o xs).R w) : ∀ x ∈ (readRes o xs).fp, x < w.heap.size := by
  intro x hx
  cases o with
  | none => cases hx
  | some a =>
    obtain rfl := rd_fp hx
    cases xs with
    | nil => cases hx
    | cons u xs =>
      obtain ⟨a', e, hc⟩ := h 0 u rfl
      simp at e; subst e
      rcases Nat.lt_or_ge a.block w.heap.size with h' | h'
      · exact h'
      · have e0 : (a.add 0) = a := by simp [Addr.add]
        rw [e0] at hc
        simp [World.cell?, Array.getElem?_eq_none h'] at hc
theorem rd_inR {o : Option Addr} {xs ys : List Value} {x : Nat} {e : TypeId} {size n cap : Nat} (h : x ∈ (readRes o xs).fp) : x ∈ (rowRes e size o n cap ys).fp := by
  cases o with
  | none => cases h
  | some a => obtain rfl := rd_fp h; simp [rowRes]
theorem rd_inC {b : Nat} {xs l : List Value} {x : Nat} {t : TypeId} (h : x ∈ (readRes (some ⟨b, 0, none⟩) xs).fp) : x ∈ (cellsRes b l t).fp := by
  obtain rfl := rd_fp h; simp [cellsRes]
section
variable {α : Type} {f : α → List Value} {size : Nat} {o : Option Addr} {a : Addr} {L : List α} {w : World}
theorem rd_some (hf : ∀ x, (f x).length = size) (h0 : 0 < size) (h : (readRes o (L.flatMap f)).R w) (hn : 0 < L.length) : ∃ a, o = some a := by
  cases L with
  | nil => simp at hn
  | cons x L =>
    have hl : 0 < (f x).length := by rw [hf]; exact h0
    have hx : (f x)[0]? = some (f x)[0] := List.getElem?_eq_getElem hl
    obtain ⟨a, ha, _⟩ := h 0 (f x)[0] (by rw [List.flatMap_cons, List.getElem?_append_left (by rw [hf]; exact h0)]; exact hx)
    exact ⟨a, ha⟩
theorem rd_at (hf : ∀ x, (f x).length = size) (h : (readRes (some a) (L.flatMap f)).R w) {i : Nat} {x : α} (hx : L[i]? = some x) {j : Nat} (hj : j < size) {u : Value} (hu : (f x)[j]? = some u) {ad : Addr} (had : ad = a.add (i * size + j)) : w.cell? ad = some u := by
  obtain ⟨a', ha, hc⟩ := h (i * size + j) u ((flat_at hf hx hj).trans hu)
  simp at ha; subst ha
  rw [had]; exact hc
theorem rd_of_row {e : TypeId} {n cap : Nat} {xs : List Value} (h : (rowRes e size o n cap xs).R w) : (readRes o xs).R w := by
  intro j u hu
  rcases h.2 with ⟨h1, h2⟩ | ⟨g, cap', cur, h1, _⟩
  · have := h.1
    rw [h2] at this
    simp at this
    subst this; simp at hu
  · injection h1 with h1
    subst h1
    exact ⟨_, rfl, rowRes_cell h hu⟩
theorem rd_take {xs : List Value} (h : (readRes o xs).R w) (n : Nat) : (readRes o (xs.take n)).R w := fun j u hu => by
  rw [List.getElem?_take] at hu
  split at hu
  · exact h j u hu
  · cases hu
end
end Go.Proofs.Ytfcbcgjgkleonaa
