/- A slice as an argument, opened to a list of records, element by element, whatever an element is; the bound of an Upto statement. -/
import Derived.Test.YtglafgpjgkphkaaGreatDoorBnV
import Derived.ChangeSame
import Derived.Deep.Strs
set_option linter.unusedVariables false
namespace Go.Proofs.YtglafgpjgkphkaaGreatDoor
open Go.ChangeShapes Go.WideShapes Go.RowKit Go.Deep

section
variable {H : Type} {enc : TypeId × Value → H} {P : Program} {w : World} {spare : Nat → Bool} {held : Bool}
theorem list_of {α : Type} {p : Nat → α → Prop} : ∀ {n : Nat}, (∀ i, i < n → ∃ a, p i a) → ∃ L : List α, L.length = n ∧ ∀ (i : Nat) (a : α), L[i]? = some a → p i a
  | 0, _ => ⟨[], rfl, by simp⟩
  | n + 1, h => by
    obtain ⟨L, hl, hL⟩ := list_of (n := n) fun i hi => h i (by omega)
    obtain ⟨a, ha⟩ := h n (by omega)
    refine ⟨L ++ [a], by simp [hl], fun i b hb => ?_⟩
    rcases Nat.lt_or_ge i L.length with hi | hi
    · rw [List.getElem?_append_left hi] at hb
      exact hL i b hb
    · have hin : i = n := by have := (List.getElem?_eq_some_iff.1 hb).1; simp at this; omega
      subst hin
      rw [← hl] at hb
      simp at hb
      subst hb; exact ha
theorem open_list {α : Type} {F : α → List Value} {size B : Nat} {ok : TypeId → DataW H → Prop} {good : α → Prop} {t e : TypeId} {fuel : Nat} {cs : List Value} {x : DataW H × List MemPlace} (hF : ∀ a, (F a).length = size) (h0 : 0 < size)
    (ht : P.underlying t = some (.slice e)) (hC : P.cellsOf e = size) (hlen : ∀ es sp, ok t (.slice es sp) → es.length ≤ B ∧ ∀ d ∈ es, ok e d)
    (hel : ∀ n cs x, ok e x.1 → DataW.trod enc P w 0 spare held n e cs = some x → ∃ a, cs = F a ∧ good a)
    (h : DataW.trod enc P w 0 spare held fuel t cs = some x) (hok : ok t x.1) : ∃ (o : Option Addr) (L : List α) (cap : Nat), cs = [.slice o L.length cap] ∧ (readRes o (L.flatMap F)).R w ∧ (∀ a ∈ L, good a) ∧ L.length ≤ cap ∧ L.length ≤ B := by
  rcases open_slice ht h with ⟨rfl, rfl⟩ | ⟨a, len, cap, m, n, D, Pl, rfl, _, hlc, _, hm, hx, hi⟩
  · exact ⟨none, [], 0, rfl, fun j u hu => by simp at hu, by simp, by simp, by simp⟩
  · have hle : len ≤ m := by rw [hm]; split <;> omega
    rw [hx] at hok
    obtain ⟨hB, hd⟩ := hlen _ _ hok
    obtain ⟨L, hl, hL⟩ := list_of (α := α) (p := fun i b => good b ∧ w.cells? 0 (a.add (i * size)) size = some (F b)) (n := len) fun i hil => by
      obtain ⟨cs', hc, htr⟩ := hi i (by omega)
      obtain ⟨b, rfl, hg⟩ := hel _ _ _ (hd (D i) (List.mem_map.2 ⟨i, by simpa using hil, rfl⟩)) htr
      rw [hC] at hc
      exact ⟨b, hg, hc⟩
    refine ⟨some a, L, cap, by rw [hl], fun j u hu => ?_, fun b hb => ?_, by omega, by simpa [hl] using hB⟩
    · have hj : j < len * size := by
        have := (List.getElem?_eq_some_iff.1 hu).1
        rw [flat_len hF, hl] at this
        exact this
      have hil : j / size < len := Nat.div_lt_of_lt_mul (by rw [Nat.mul_comm]; exact hj)
      have hr : j % size < size := Nat.mod_lt _ h0
      have e1 : j = j / size * size + j % size := by have := Nat.div_add_mod j size; rw [Nat.mul_comm] at this; exact this.symm
      have hx1 : L[j / size]? = some L[j / size] := List.getElem?_eq_getElem (by omega)
      obtain ⟨_, hc⟩ := hL _ _ hx1
      refine ⟨a, rfl, ?_⟩
      rw [e1, flat_at hF hx1 hr] at hu
      obtain ⟨_, _, hat⟩ := World.cells?_some hc
      have := hat (j % size) hr
      rw [Go.Proofs.YtglafgpjgkphkaaGreatDoor.add_add, ← e1] at this
      rw [this]; exact hu
    · obtain ⟨i, hib⟩ := List.getElem?_of_mem hb
      exact (hL i b hib).1
end
end Go.Proofs.YtglafgpjgkphkaaGreatDoor
