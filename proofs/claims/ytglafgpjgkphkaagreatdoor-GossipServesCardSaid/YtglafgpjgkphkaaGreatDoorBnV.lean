/- Arguments of numbers, bools, strings and structs of such, and slices of them, opened to their cells. Slices as arguments: their length against the reach, their block, their cells as a list of records. -/
import Derived.Test.YtglafgpjgkphkaaGreatDoorMq
import Derived.Test.YtglafgpjgkphkaaGreatDoorBnW
import Derived.Deep.Slices
import Derived.Test.YtglafgpjgkphkaaGreatDoorBnU
import Derived.SizedLaws
namespace Go.Proofs.YtglafgpjgkphkaaGreatDoor
section
set_option linter.unusedVariables false
open Go.ChangeShapes Go.WideShapes Go.RowKit Go.Deep

inductive Leaf where
  | int (k : IntKind) | bool | str
def Leaf.fits : Leaf → Value → Prop
  | .int k, v => ∃ n, v = .int k n ∧ (Lit.int k n).wf = true
  | .bool, v => ∃ b, v = .bool b
  | .str, v => ∃ s : ByteArray, v = .string s ∧ s.size ≤ maxLen

def leavesF (P : Program) (rec : TypeId → Option (List Leaf)) : Nat → List Field → Option (List Leaf)
  | _, [] => some []
  | o, f :: fs => if f.offset = o then match rec f.type with
    | some l => if P.cellsOf f.type = l.length then match leavesF P rec (o + l.length) fs with | some r => some (l ++ r) | none => none else none
    | none => none else none
def leaves (P : Program) : Nat → TypeId → Option (List Leaf)
  | 0, _ => none
  | n + 1, t => match P.underlying t with
    | some .bool => some [.bool]
    | some (.int k) => some [.int k]
    | some .string => some [.str]
    | some (.struct fs) => match leavesF P (leaves P n) 0 fs.toList with
      | some l => if P.cellsOf t = l.length then some l else none
      | none => none
    | _ => none

inductive Fits : List Leaf → List Value → Prop
  | nil : Fits [] []
  | cons {l : Leaf} {v : Value} {ls : List Leaf} {vs : List Value} : l.fits v → Fits ls vs → Fits (l :: ls) (v :: vs)
theorem Fits.len {ls : List Leaf} {vs : List Value} (h : Fits ls vs) : vs.length = ls.length := by induction h <;> simp_all
theorem Fits.append {l1 l2 : List Leaf} {v1 v2 : List Value} (h1 : Fits l1 v1) (h2 : Fits l2 v2) : Fits (l1 ++ l2) (v1 ++ v2) := by
  induction h1 with
  | nil => exact h2
  | cons h _ ih => exact .cons h ih
theorem Fits.inv {l : Leaf} {ls : List Leaf} {vs : List Value} (h : Fits (l :: ls) vs) : ∃ v r, vs = v :: r ∧ l.fits v ∧ Fits ls r := by cases h; exact ⟨_, _, rfl, by assumption, by assumption⟩
theorem Fits.inv0 {vs : List Value} (h : Fits [] vs) : vs = [] := by cases h; rfl

section
variable {H : Type} {enc : TypeId × Value → H} {P : Program} {w : World} {base : Nat} {spare : Nat → Bool} {held : Bool}

theorem leavesF_fits {rec : TypeId → Option (List Leaf)} {n : Nat} {cs : List Value} (hrec : ∀ t ls cs x, rec t = some ls → DataW.trod enc P w base spare held n t cs = some x → Fits ls cs) :
    ∀ (fs : List Field) (o : Nat) (ls : List Leaf), leavesF P rec o fs = some ls → (∀ f ∈ fs, ∃ y, DataW.trod enc P w base spare held n f.type ((cs.drop f.offset).take (P.cellsOf f.type)) = some y) → cs.length = o + ls.length → Fits ls (cs.drop o)
  | [], o, ls, h, _, hl => by
    simp [leavesF] at h; subst h
    simp at hl
    rw [List.drop_eq_nil_of_le (by omega)]; exact .nil
  | f :: fs, o, ls, h, hf, hl => by
    simp only [leavesF] at h
    split at h
    · rename_i ho
      split at h
      · rename_i l hr
        split at h
        · rename_i hc
          split at h
          · rename_i r hr2
            simp at h; subst h
            obtain ⟨y, hy⟩ := hf f (by simp)
            have h1 := hrec _ _ _ _ hr hy
            rw [ho, hc] at h1
            have h2 := leavesF_fits hrec fs (o + l.length) r hr2 (fun g hg => hf g (by simp [hg])) (by simp at hl; omega)
            have := h1.append h2
            rw [← List.drop_drop] at this
            rwa [List.take_append_drop] at this
          · cases h
        · cases h
      · cases h
    · cases h

theorem leaves_fits : ∀ (n : Nat) {t : TypeId} {ls : List Leaf} {fuel : Nat} {cs : List Value} {x : DataW H × List MemPlace}, leaves P n t = some ls → DataW.trod enc P w base spare held fuel t cs = some x → Fits ls cs
  | 0, _, _, _, _, _, h, _ => by simp [leaves] at h
  | n + 1, t, ls, fuel, cs, x, h, hx => by
    simp only [leaves] at h
    split at h
    · rename_i ht
      simp at h; subst h
      obtain ⟨b, rfl, _⟩ := DataW.trod_bool ht hx
      exact .cons ⟨b, rfl⟩ .nil
    · rename_i k ht
      simp at h; subst h
      obtain ⟨b, rfl, _, hw⟩ := DataW.trod_int ht hx
      exact .cons ⟨b, rfl, hw⟩ .nil
    · rename_i ht
      simp at h; subst h
      obtain ⟨b, rfl, _, hw⟩ := DataW.trod_string ht hx
      exact .cons ⟨b, rfl, hw⟩ .nil
    · rename_i fs ht
      split at h
      · rename_i l hl
        split at h
        · rename_i hc
          simp at h; subst h
          obtain ⟨xs, n', hn', _, hlen, hxl, hf⟩ := DataW.trod_struct ht hx
          have := leavesF_fits (cs := cs) (n := n') (rec := leaves P n) (fun t ls cs x h1 h2 => leaves_fits n h1 h2) fs.toList 0 l hl (fun f hf' => by
            obtain ⟨j, hj, rfl⟩ := List.getElem_of_mem hf'
            have hj' : fs[j]? = some fs.toList[j] := by simp at hj ⊢
            exact ⟨_, (hf j _ hj').trans (List.getElem?_eq_getElem (by rw [hxl]; simpa using hj))⟩) (by rw [hlen, hc]; simp)
          simpa using this
        · cases h
      · cases h
    · cases h

theorem lt_of_cell {w : World} {a : Addr} {v : Value} (h : w.cell? a = some v) : a.block < w.heap.size := by
  rcases Nat.lt_or_ge a.block w.heap.size with h' | h'
  · exact h'
  · simp [World.cell?, Array.getElem?_eq_none h'] at h

/-- A slice of such, opened. -/
theorem open_leaves (n : Nat) {t e : TypeId} {ls : List Leaf} {v : Value} {d : DataW H} {p : List MemPlace} (ht : P.underlying t = some (.slice e)) (he : leaves P n e = some ls) (hC : P.cellsOf e = ls.length) (h0 : 0 < ls.length) (hv : Value.okWide P w .any base t v)
    (h : DataW.Trod enc P w 0 spare held t v d p) : ∃ (o : Option Addr) (m cap : Nat) (f : Nat → List Value), v = .slice o m cap ∧ m ≤ cap ∧ cap ≤ 9223372036854775807 ∧ RawSl w w.heap.size ls.length o m f ∧ ∀ i, i < m → Fits ls (f i) := by
  obtain ⟨a, len, cap, rfl⟩ := okWide_slice ht hv
  obtain ⟨fuel, hf⟩ := h
  rcases open_slice ht hf with ⟨hcs, _⟩ | ⟨a', len', cap', m, k, D, Pl, hcs, _, hl, hm, hmm, hx, hi⟩
  · simp [Value.cells] at hcs
    obtain ⟨rfl, rfl, rfl⟩ := hcs
    exact ⟨none, 0, 0, fun _ => [], rfl, by omega, by omega, fun i hi => absurd hi (by omega), fun i hi => absurd hi (by omega)⟩
  · simp [Value.cells] at hcs
    obtain ⟨rfl, rfl, rfl⟩ := hcs
    have hle : len ≤ m := by rw [hmm]; split <;> omega
    refine ⟨some a', len, cap, fun i => (w.cells? 0 (a'.add (i * P.cellsOf e)) (P.cellsOf e)).getD [], rfl, hl, by unfold maxLen at hm; omega, fun i him => ?_, fun i him => ?_⟩
    · obtain ⟨cs', hc, ht'⟩ := hi i (by omega)
      obtain ⟨_, hcl, hat⟩ := World.cells?_some hc
      have hfit := leaves_fits n he ht'
      have hb : a'.block < w.heap.size := by
        have h1 := hat 0 (by omega)
        rw [List.getElem?_eq_getElem (by omega)] at h1
        have := lt_of_cell h1
        rwa [block_add, block_add] at this
      refine ⟨a', rfl, hb, by simp only [hc, Option.getD_some]; omega, fun j u hu => ?_⟩
      simp only [hc, Option.getD_some] at hu
      have hj : j < P.cellsOf e := by have := (List.getElem?_eq_some_iff.1 hu).1; omega
      have := hat j hj
      rw [Go.Proofs.YtglafgpjgkphkaaGreatDoor.add_add, hC] at this
      rw [this]; exact hu
    · obtain ⟨cs', hc, ht'⟩ := hi i (by omega)
      simp only [hc, Option.getD_some]
      exact leaves_fits n he ht'
end

/-- The number of a cell; a string; a bool. -/
def intOfV : Value → Int
  | .int _ n => n
  | _ => 0
def strOfV : Value → ByteArray
  | .string s => s
  | _ => default
def boolOfV : Value → Bool
  | .bool b => b
  | _ => false
end
section
set_option linter.unusedVariables false
open Go.ChangeShapes Go.WideShapes Go.RowKit Go.Deep

section
variable {H : Type} {enc : TypeId × Value → H} {P : Program} {w : World} {base : Nat} {spare : Nat → Bool} {held : Bool}
theorem open_len {t e : TypeId} {o : Option Addr} {m cap : Nat} {d : DataW H} {p : List MemPlace} (ht : P.underlying t = some (.slice e)) (h : DataW.Trod enc P w 0 spare held t (.slice o m cap) d p) : m = 0 ∨ ∃ es sp, d = .slice es sp ∧ es.length = m := by
  obtain ⟨fuel, hf⟩ := h
  rcases open_slice ht hf with ⟨hcs, _⟩ | ⟨a', len', cap', m', k, D, Pl, hcs, _, hl, hm, hmm, hx, hi⟩
  · simp [Value.cells] at hcs
    exact .inl hcs.2.1
  · simp [Value.cells] at hcs
    obtain ⟨rfl, rfl, rfl⟩ := hcs
    simp only [Prod.mk.injEq] at hx
    exact .inr ⟨_, _, hx.1, by simp⟩
theorem len_reach {t e : TypeId} {o : Option Addr} {m cap : Nat} {d : DataW H} {p : List MemPlace} {ts : List TypeId} {ds : List (DataW H)} (ht : P.underlying t = some (.slice e)) (h : DataW.Trod enc P w 0 spare held t (.slice o m cap) d p)
    (hz : (DataW.weightsEach P ts ds).all (· ≤ reachBytes) = true) {j : Nat} (h1 : ts[j]? = some t) (h2 : ds[j]? = some d) : m * P.bytesOf e ≤ reachBytes := by
  rcases open_len ht h with rfl | ⟨es, sp, rfl, rfl⟩
  · simp
  · have := sized_slice hz h1 h2 ht
    rw [Nat.add_mul] at this
    omega
theorem okWide_lt {t e : TypeId} {a : Addr} {m cap : Nat} (ht : P.underlying t = some (.slice e)) (hv : Value.okWide P w .any base t (.slice (some a) m cap)) : a.block < w.heap.size := by
  simp only [Value.okWide, ht, Cell.okWide, Cell.ok, World.has] at hv
  obtain ⟨_, _, _, _, row, cells, hs, _⟩ := hv
  rcases Nat.lt_or_ge a.block w.heap.size with h' | h'
  · exact h'
  · simp [World.shape?, Array.getElem?_eq_none h'] at hs
theorem rd_of_raw {α : Type} {F : α → List Value} {size : Nat} {o : Option Addr} {m B : Nat} {f : Nat → List Value} {g : Nat → α} (h0 : 0 < size) (hF : ∀ x, (F x).length = size) (hsl : RawSl w B size o m f) (hfg : ∀ i, i < m → f i = F (g i)) :
    (readRes o (((List.range m).map g).flatMap F)).R w := by
  intro j u hu
  have hj : j < m * size := by
    have := (List.getElem?_eq_some_iff.1 hu).1
    rw [flat_len hF] at this
    simpa using this
  have hi : j / size < m := Nat.div_lt_of_lt_mul (by rw [Nat.mul_comm]; exact hj)
  have hr : j % size < size := Nat.mod_lt _ h0
  have e : j = j / size * size + j % size := by have := Nat.div_add_mod j size; rw [Nat.mul_comm] at this; exact this.symm
  obtain ⟨a, ha, _, _, hc⟩ := hsl _ hi
  refine ⟨a, ha, ?_⟩
  have hx : ((List.range m).map g)[j / size]? = some (g (j / size)) := by simp [hi]
  have hu' := hu
  rw [e, flat_at hF hx hr] at hu'
  have := hc (j % size) u (by rw [hfg _ hi]; exact hu')
  rw [← e] at this
  exact this
end
end
end Go.Proofs.YtglafgpjgkphkaaGreatDoor
