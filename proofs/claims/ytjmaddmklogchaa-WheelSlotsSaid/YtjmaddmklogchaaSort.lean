/- slices.SortFunc at timers: the shelf's contract, laid at this program; rows; worlds that have only grown. -/
import Derived.Test.YtjmaddmklogchaaWkH
import Derived.Shelf.SlSortCmp.WholeK
set_option maxRecDepth 100000
set_option linter.unusedSimpArgs false
set_option linter.unusedVariables false
set_option maxHeartbeats 8000000
namespace Go.Proofs.Ytjmaddmklogchaa
open Go.RowKit
open Go.Shelf
open Go.Sort

/-! ### The contract laid here -/
def sortTm_ren : Go.Shelf.Ren := ⟨fun | 6 => 25 | 15 => 37 | 14 => 36 | 28 => 51 | 29 => 52 | 20 => 43 | 21 => 44 | 22 => 45 | 23 => 46 | 24 => 47 | 25 => 48 | 26 => 49 | 27 => 50 | 46 => 53 | 47 => 54 | 48 => 55 | 49 => 56 | 50 => 57 | 57 => 58 | n => n, fun | 22 => 31 | 24 => 54 | 25 => 61 | 3 => 3 | 39 => 70 | 0 => 0 | 53 => 83 | 55 => 85 | 4 => 4 | 46 => 77 | 45 => 76 | 50 => 62 | 5 => 5 | 9 => 9 | 66 => 86 | 70 => 90 | 76 => 92 | 77 => 93 | n => n, fun | n => n⟩
theorem sortTm : Go.Proofs.SlLaysF0.n6 Try.prog sortTm_ren := {
  mixed := by kernel_rfl
  f6 := ⟨Try.f25.name, by decide, Try.func25.trans (congrArg some (by kernel_rfl))⟩
  f14 := ⟨Try.f36.name, by decide, Try.func36.trans (congrArg some (by kernel_rfl))⟩
  f15 := Try.func37.trans (congrArg some (by kernel_rfl))
  f20 := ⟨Try.f43.name, by decide, Try.func43.trans (congrArg some (by kernel_rfl))⟩
  f21 := ⟨Try.f44.name, by decide, Try.func44.trans (congrArg some (by kernel_rfl))⟩
  f22 := ⟨Try.f45.name, by decide, Try.func45.trans (congrArg some (by kernel_rfl))⟩
  f23 := ⟨Try.f46.name, by decide, Try.func46.trans (congrArg some (by kernel_rfl))⟩
  f24 := ⟨Try.f47.name, by decide, Try.func47.trans (congrArg some (by kernel_rfl))⟩
  f25 := ⟨Try.f48.name, by decide, Try.func48.trans (congrArg some (by kernel_rfl))⟩
  f26 := ⟨Try.f49.name, by decide, Try.func49.trans (congrArg some (by kernel_rfl))⟩
  f27 := ⟨Try.f50.name, by decide, Try.func50.trans (congrArg some (by kernel_rfl))⟩
  f28 := Try.func51.trans (congrArg some (by kernel_rfl))
  f29 := Try.func52.trans (congrArg some (by kernel_rfl))
  f46 := ⟨Try.f53.name, by decide, Try.func53.trans (congrArg some (by kernel_rfl))⟩
  f47 := Try.func54.trans (congrArg some (by kernel_rfl))
  f48 := Try.func55.trans (congrArg some (by kernel_rfl))
  f49 := ⟨Try.f56.name, by decide, Try.func56.trans (congrArg some (by kernel_rfl))⟩
  f50 := ⟨Try.f57.name, by decide, Try.func57.trans (congrArg some (by kernel_rfl))⟩
  f57 := ⟨Try.f58.name, by decide, Try.func58.trans (congrArg some (by kernel_rfl))⟩
  t0 := Try.underlying0
  a0 := Try.isAgg0
  z0 := Try.sizeOf0
  v0 := Try.zeroValue0
  t3 := Try.underlying3
  a3 := Try.isAgg3
  z3 := Try.sizeOf3
  v3 := Try.zeroValue3
  t4 := Try.underlying4
  a4 := Try.isAgg4
  z4 := Try.sizeOf4
  v4 := Try.zeroValue4
  t5 := Try.underlying5
  a5 := Try.isAgg5
  z5 := Try.sizeOf5
  v5 := Try.zeroValue5
  t9 := Try.underlying9
  a9 := Try.isAgg9
  z9 := Try.sizeOf9
  v9 := Try.zeroValue9
  t22 := Try.underlying31
  a22 := Try.isAgg31
  z22 := Try.sizeOf31
  v22 := Try.zeroValue31
  t25 := Try.underlying61
  a25 := Try.isAgg61
  z25 := Try.sizeOf61
  v25 := Try.zeroValue61
  t39 := Try.underlying70
  a39 := Try.isAgg70
  z39 := Try.sizeOf70
  v39 := Try.zeroValue70
  t45 := Try.underlying76
  a45 := Try.isAgg76
  z45 := Try.sizeOf76
  v45 := Try.zeroValue76
  t46 := Try.underlying77
  a46 := Try.isAgg77
  z46 := Try.sizeOf77
  v46 := Try.zeroValue77
  t50 := Try.underlying62
  a50 := Try.isAgg62
  z50 := Try.sizeOf62
  v50 := Try.zeroValue62
  t53 := Try.underlying83
  a53 := Try.isAgg83
  z53 := Try.sizeOf83
  v53 := Try.zeroValue83
  t55 := Try.underlying85
  a55 := Try.isAgg85
  z55 := Try.sizeOf85
  v55 := Try.zeroValue85
  t66 := Try.underlying86
  a66 := Try.isAgg86
  z66 := Try.sizeOf86
  v66 := Try.zeroValue86
  t70 := Try.underlying90
  a70 := Try.isAgg90
  z70 := Try.sizeOf90
  v70 := Try.zeroValue90
  t76 := Try.underlying92
  a76 := Try.isAgg92
  z76 := Try.sizeOf92
  v76 := Try.zeroValue92
  t77 := Try.underlying93
  a77 := Try.isAgg93
  z77 := Try.sizeOf93
  v77 := Try.zeroValue93 }
/-! ### A world that has only grown -/
theorem frm_grow {w w' : World} (h : Frm [] w w') : ∃ q os', w' = grow (w.drewN q) os' := by
  refine ⟨w'.drawn - w.drawn, w'.heap.extract w.heap.size w'.heap.size, ?_⟩
  have hh : w'.heap = w.heap ++ w'.heap.extract w.heap.size w'.heap.size := by
    apply Array.ext_getElem?
    intro k
    by_cases hk : k < w.heap.size
    · rw [Array.getElem?_append_left hk]
      exact h.block k hk (by simp)
    · rw [Array.getElem?_append_right (by omega), Array.getElem?_extract]
      by_cases hk2 : k < w'.heap.size
      · rw [if_pos (by omega)]
        congr 1; omega
      · rw [if_neg (by omega), Array.getElem?_eq_none (by omega)]
  have hd : w.drawn + (w'.drawn - w.drawn) = w'.drawn := by have := h.drawn; omega
  have h1 := h.os
  have h2 := h.tape
  have h3 := h.output
  cases w' with
  | mk heap tape drawn os output =>
    simp only at hh hd h1 h2 h3
    unfold grow World.drewN
    simp only [World.mk.injEq]
    exact ⟨hh, h2, hd.symm, h1, h3⟩

/-! ### A row as the sort sees it -/
instance : Inhabited Tm := ⟨⟨0, 0, 0, 0⟩⟩
theorem flatK_tms (L : List Tm) : (flatK Tm.l 4 L.toArray).toList = tms L := by
  apply List.ext_getElem?
  intro t
  by_cases ht : t < L.length * 4
  · have hi : t / 4 < L.length := by omega
    have hx : L[t / 4]? = some L[t / 4] := List.getElem?_eq_getElem hi
    have h := flat_at (f := Tm.l) tm_len hx (j := t % 4) (Nat.mod_lt _ (by omega))
    rw [show t / 4 * 4 + t % 4 = t by omega] at h
    have hl : t % 4 < (L[t / 4]).l.length := Nat.mod_lt _ (by omega)
    show _ = (L.flatMap Tm.l)[t]?
    rw [h]
    unfold flatK
    simp only [Array.toList_map, Array.toList_range, List.getElem?_map, List.size_toArray]
    rw [List.getElem?_range ht]
    simp only [Option.map_some]
    rw [List.getElem?_eq_getElem hl]
    congr 1
    have e1 : L.toArray[t / 4]! = L[t / 4] := by simp [hi]
    rw [e1]
    exact getElem!_pos (L[t / 4]).l (t % 4) hl
  · rw [List.getElem?_eq_none (by simp; omega), List.getElem?_eq_none (by rw [tms_len]; omega)]
theorem row_holds {g n cap : Nat} {L : List Tm} {w : World} (h : (tRow (some ⟨g, 0, none⟩) n cap (tms L)).R w) : HoldsK Tm.l 4 w g 0 L.toArray := by
  have h' : w.ownsRow 0 54 4 (.slice (some ⟨g, 0, none⟩) n cap) n (tms L) := h
  obtain ⟨hlen, hh⟩ := h'
  rcases hh with ⟨h2, _⟩ | ⟨g', cap', cur, h2, hb, hg, hnc, hcm, hcs, htake⟩
  · simp at h2
  simp only [Value.slice.injEq, Option.some.injEq, Addr.mk.injEq, and_true, true_and] at h2
  obtain ⟨rfl, rfl⟩ := h2
  intro j hj
  have hj' : j < (tms L).length := by rw [← flatK_tms]; simpa using hj
  refine ⟨?_, ?_⟩
  · have hc : (tms L)[j]? = some ((flatK Tm.l 4 L.toArray)[j]!) := by
      rw [← flatK_tms]
      rw [Array.getElem?_toList, Array.getElem?_eq_getElem hj, getElem!_pos (flatK Tm.l 4 L.toArray) j hj]
    have := rowRes_cell (a := ⟨g, 0, none⟩) h hc
    rw [add_mk] at this
    simpa using this
  · simp only [World.frozen?, hg]
    simp
theorem sort_row {g n cap : Nat} {L L' : List Tm} {w : World} {m : Nat} {os : Array Obj} (h : (tRow (some ⟨g, 0, none⟩) n cap (tms L)).R w) (hl : L'.length = L.length) :
    Frm [g] w (sortWorldK Tm.l 4 w g 0 m L'.toArray os) ∧ (tRow (some ⟨g, 0, none⟩) n cap (tms L')).R (sortWorldK Tm.l 4 w g 0 m L'.toArray os) := by
  have h' : w.ownsRow 0 54 4 (.slice (some ⟨g, 0, none⟩) n cap) n (tms L) := h
  obtain ⟨hlen, hh⟩ := h'
  rcases hh with ⟨h2, _⟩ | ⟨g', cap', cur, h2, hb, hg, hnc, hcm, hcs, htake⟩
  · simp at h2
  simp only [Value.slice.injEq, Option.some.injEq, Addr.mk.injEq, and_true, true_and] at h2
  obtain ⟨rfl, rfl⟩ := h2
  have hgl : g < w.heap.size := (Array.getElem?_eq_some_iff.1 hg).1
  have hF : (flatK Tm.l 4 L'.toArray).size = n * 4 := by
    rw [size_flatK]; simp only [List.size_toArray, hl]
    have := tms_len L
    omega
  have hcl : n * 4 ≤ cur.size := by rw [hcs]; exact Nat.mul_le_mul_right _ hnc
  have hsz : w.heap.size ≤ (sortWorldK Tm.l 4 w g 0 m L'.toArray os).heap.size := by
    unfold sortWorldK putRowK putRow mapBlock grow
    simp [Sort.ahead]
  have hold : ∀ k, k < w.heap.size → (sortWorldK Tm.l 4 w g 0 m L'.toArray os).heap[k]? = (w.heap.modify g (onCells (putCells id 0 (flatK Tm.l 4 L'.toArray))))[k]? := by
    intro k hk
    unfold sortWorldK putRowK putRow mapBlock grow
    simp only [Sort.ahead]
    rw [Array.getElem?_append_left (by simpa using hk)]
  refine ⟨⟨rfl, rfl, rfl, hsz, fun k hk hn => ?_, Nat.le_add_right _ _⟩, ?_⟩
  · rw [hold k hk, Array.getElem?_modify, if_neg (by simp at hn; exact fun e => hn e.symm)]
  · have hblk : (sortWorldK Tm.l 4 w g 0 m L'.toArray os).heap[g]? = some (.cells (putCells id 0 (flatK Tm.l 4 L'.toArray) cur) 54 (0, 0)) := by
      rw [hold g hgl, Array.getElem?_modify, if_pos rfl, hg]
      rfl
    refine ⟨by rw [tms_len, hl]; have := tms_len L; omega, .inr ⟨g, cap, _, rfl, hb, hblk, hnc, hcm, by simp [putCells, hcs], ?_⟩⟩
    rw [← flatK_tms]
    apply List.ext_getElem?
    intro t
    rw [List.getElem?_take]
    by_cases ht : t < n * 4
    · rw [if_pos ht, Array.getElem?_toList, Array.getElem?_toList, Array.getElem?_eq_getElem (xs := flatK Tm.l 4 L'.toArray) (by rw [hF]; exact ht)]
      unfold putCells
      rw [Array.getElem?_mapIdx, Array.getElem?_eq_getElem (by omega)]
      simp only [Option.map_some, Nat.zero_le, Nat.zero_add, true_and, Nat.sub_zero, id]
      rw [if_pos (by rw [hF]; exact ht), getElem!_pos (flatK Tm.l 4 L'.toArray) t (by rw [hF]; exact ht)]
    · rw [if_neg ht, List.getElem?_eq_none (by simp only [Array.length_toList, hF]; omega)]
end Go.Proofs.Ytjmaddmklogchaa
