/- Slices as arguments: their length against the reach, their block, their cells as a list of records. -/
import Derived.Test.YtfcbcgjgkleonaaLeaf
import Derived.Test.YtfcbcgjgkleonaaRd
import Derived.SizedLaws
set_option linter.unusedVariables false
namespace Go.Proofs.Ytfcbcgjgkleonaa
open Go.ChangeShapes Go.WideShapes Go.RowKit Go.Deep

section
variable {H : Type} {enc : TypeId × Value → H} {P : Program} {w : World} {base : Nat} {spare : Nat → Bool} {held : Bool}
theorem open_len {t e : TypeId} {o : Option Addr} {m cap : Nat} {d : DataW H} {p : List MemPlace} (ht : P.underlying t = some (.slice e)) (h : DataW.Trod enc P w 0 spare held t (.slice o m cap) d p) : m = 0 ∨ ∃ es sp, d = .slice es sp ∧ es.length = m := by
  obtain ⟨fuel, hf⟩ := h
  rcases open_slice ht hf with ⟨hcs, _⟩ | ⟨a', len', cap', m', k, D, Pl, hcs, _, hl, hm, hmm, hx, hi⟩
  · simp [Value.cells] at hcs
    exact .inl hcs.2.1
  · simp [Value.cells] at hcs
    obtain ⟨rfl, rfl, rfl⟩ := hcs
    simp only [Prod.mk.injEq] at hx
    exact .inr ⟨_, _, hx.1, by simp⟩
theorem len_reach {t e : TypeId} {o : Option Addr} {m cap : Nat} {d : DataW H} {p : List MemPlace} {ts : List TypeId} {ds : List (DataW H)} (ht : P.underlying t = some (.slice e)) (h : DataW.Trod enc P w 0 spare held t (.slice o m cap) d p)
    (hz : (DataW.weightsEach P ts ds).all (· ≤ reachBytes) = true) {j : Nat} (h1 : ts[j]? = some t) (h2 : ds[j]? = some d) : m * P.bytesOf e ≤ reachBytes := by
  rcases open_len ht h with rfl | ⟨es, sp, rfl, rfl⟩
  · simp
  · have := sized_slice hz h1 h2 ht
    rw [Nat.add_mul] at this
    omega
theorem okWide_lt {t e : TypeId} {a : Addr} {m cap : Nat} (ht : P.underlying t = some (.slice e)) (hv : Value.okWide P w .any base t (.slice (some a) m cap)) : a.block < w.heap.size := by
  simp only [Value.okWide, ht, Cell.okWide, Cell.ok, World.has] at hv
  obtain ⟨_, _, _, _, row, cells, hs, _⟩ := hv
  rcases Nat.lt_or_ge a.block w.heap.size with h' | h'
  · exact h'
  · simp [World.shape?, Array.getElem?_eq_none h'] at hs
theorem rd_of_raw {α : Type} {F : α → List Value} {size : Nat} {o : Option Addr} {m B : Nat} {f : Nat → List Value} {g : Nat → α} (h0 : 0 < size) (hF : ∀ x, (F x).length = size) (hsl : RawSl w B size o m f) (hfg : ∀ i, i < m → f i = F (g i)) :
    (readRes o (((List.range m).map g).flatMap F)).R w := by
  intro j u hu
  have hj : j < m * size := by
    have := (List.getElem?_eq_some_iff.1 hu).1
    rw [flat_len hF] at this
    simpa using this
  have hi : j / size < m := Nat.div_lt_of_lt_mul (by rw [Nat.mul_comm]; exact hj)
  have hr : j % size < size := Nat.mod_lt _ h0
  have e : j = j / size * size + j % size := by have := Nat.div_add_mod j size; rw [Nat.mul_comm] at this; exact this.symm
  obtain ⟨a, ha, _, _, hc⟩ := hsl _ hi
  refine ⟨a, ha, ?_⟩
  have hx : ((List.range m).map g)[j / size]? = some (g (j / size)) := by simp [hi]
  have hu' := hu
  rw [e, flat_at hF hx hr] at hu'
  have := hc (j % size) u (by rw [hfg _ hi]; exact hu')
  rw [← e] at this
  exact this
end
end Go.Proofs.Ytfcbcgjgkleonaa
