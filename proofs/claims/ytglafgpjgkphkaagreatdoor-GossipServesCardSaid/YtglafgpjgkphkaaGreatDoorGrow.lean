/- A world that has only grown (as the shelf's sort asks of a comparer). -/
import Derived.Test.YtglafgpjgkphkaaGreatDoorBnU
import Derived.Shelf.SlSortCmp.WholeK
set_option maxRecDepth 100000
set_option linter.unusedSimpArgs false
set_option linter.unusedVariables false
set_option maxHeartbeats 8000000
namespace Go.Proofs.YtglafgpjgkphkaaGreatDoor
open Go.RowKit
open Go.Shelf
open Go.Sort

/-! ### A world that has only grown -/
theorem frm_grow {w w' : World} (h : Frm [] w w') : ∃ q os', w' = grow (w.drewN q) os' := by
  refine ⟨w'.drawn - w.drawn, w'.heap.extract w.heap.size w'.heap.size, ?_⟩
  have hh : w'.heap = w.heap ++ w'.heap.extract w.heap.size w'.heap.size := by
    apply Array.ext_getElem?
    intro k
    by_cases hk : k < w.heap.size
    · rw [Array.getElem?_append_left hk]
      exact h.block k hk (by simp)
    · rw [Array.getElem?_append_right (by omega), Array.getElem?_extract]
      by_cases hk2 : k < w'.heap.size
      · rw [if_pos (by omega)]
        congr 1; omega
      · rw [if_neg (by omega), Array.getElem?_eq_none (by omega)]
  have hd : w.drawn + (w'.drawn - w.drawn) = w'.drawn := by have := h.drawn; omega
  have h1 := h.os
  have h2 := h.tape
  have h3 := h.output
  cases w' with
  | mk heap tape drawn os output =>
    simp only at hh hd h1 h2 h3
    unfold grow World.drewN
    simp only [World.mk.injEq]
    exact ⟨hh, h2, hd.symm, h1, h3⟩

end Go.Proofs.YtglafgpjgkphkaaGreatDoor
