/- Memory of several parts, as one part: opened at a function's beginning, shut at its end; elements of rows. -/
import Derived.Test.YtfcbcgjgkleonaaSt
set_option linter.unusedVariables false
set_option linter.unusedSimpArgs false
namespace Go.Proofs.Ytfcbcgjgkleonaa
open Go.RowKit

theorem fpsOf_inv {ids : List Nat} : ∀ {mem : Mem} {x : Nat}, ids.length = mem.length → x ∈ fpsOf ids mem → ∃ i b, nth mem i = some b ∧ x ∈ fpOf ids i b := by
  induction ids with
  | nil => intro mem x hl h; cases mem <;> simp at *
  | cons n ids ih =>
    intro mem x hl h
    cases mem with
    | nil => simp at hl
    | cons a mem =>
      simp only [fpsOf, List.mem_append] at h
      rcases h with h | h
      · refine ⟨0, a, rfl, ?_⟩
        unfold fpOf
        cases hr : resOf a with
        | some r => rw [hr] at h; simpa using h
        | none => rw [hr] at h; simpa using h
      · obtain ⟨i, b, h1, h2⟩ := ih (mem := mem) (by simpa using hl) h
        refine ⟨i + 1, b, h1, ?_⟩
        have : fpOf (n :: ids) (i + 1) b = fpOf ids i b := by unfold fpOf; simp
        rw [this]; exact h2

theorem Good.keep' {w w' : World} {ids : List Nat} {i : Nat} {b : SBlk} (h : Good w ids i b) (hk : ∀ x ∈ fpOf ids i b, w'.heap[x]? = w.heap[x]?) : Good w' ids i b := by
  have hlt : ∀ x ∈ fpOf ids i b, x < w'.heap.size := fun x hx => by
    have h1 := h.lt x hx
    have h2 := hk x hx
    rw [Array.getElem?_eq_getElem h1] at h2
    exact (Array.getElem?_eq_some_iff.1 h2).1
  cases hr : resOf b with
  | some r =>
    rw [fpOf_res hr] at hk hlt
    have h1 := h.res hr
    unfold Good; rw [hr]
    exact ⟨r.stable _ _ hk h1.1, hlt⟩
  | none =>
    obtain ⟨n, l, hn, hd, hb⟩ := h.blk hr
    rw [fpOf_cells hr hn] at hk
    exact .mk hn hd ((hk n (by simp)).trans hb)

/-- Several parts as one. -/
def memRes (ids : List Nat) (mem : Mem) : Res where
  fp := fpsOf ids mem
  R w := ids.length = mem.length ∧ (∀ i b, nth mem i = some b → Good w ids i b) ∧ ∀ i j bi bj, nth mem i = some bi → nth mem j = some bj → i ≠ j → ∀ x ∈ fpOf ids i bi, x ∉ fpOf ids j bj
  stable := fun w w' hk ⟨h1, h2, h3⟩ => ⟨h1, fun i b hb => (h2 i b hb).keep' fun x hx => hk x (fpsOf_mem h1 hb x hx), h3⟩
theorem memRes_lt {ids : List Nat} {mem : Mem} {w : World} (h : (memRes ids mem).R w) : ∀ x ∈ (memRes ids mem).fp, x < w.heap.size := fun x hx => by
  obtain ⟨h1, h2, _⟩ := h
  obtain ⟨i, b, hb, hx⟩ := fpsOf_inv h1 hx
  exact (h2 i b hb).lt x hx
theorem memRes_res {ids : List Nat} {mem : Mem} {w : World} (h : (memRes ids mem).R w) (i : Nat) {b : SBlk} {ρ : Res} (hb : nth mem i = some b) (hr : resOf b = some ρ) : ρ.R w := ((h.2.1 i b hb).res hr).1
theorem memRes_blk {ids : List Nat} {mem : Mem} {w : World} (h : (memRes ids mem).R w) (i : Nat) {b : SBlk} {n : Nat} {l : List Value} (hb : nth mem i = some b) (hn : ids[i]? = some n) (hd : denL ids b.cells = some l) : Blk w n l.toArray b.ty := by
  obtain ⟨n', l', h1, h2, h3⟩ := (h.2.1 i b hb).blk (resOf_cells hd)
  rw [hn] at h1; simp at h1; subst h1
  rw [hd] at h2; simp at h2; subst h2
  exact h3

section
variable {P : Program} {N : Nat} {os : List (Nat × Odr)} {S : List Nat} {w : World} {ids : List Nat} {mem : Mem}
/-- Opened: all of it may be written. -/
theorem memRes_open (h : (memRes ids mem).R w) (hS : ∀ x ∈ fpsOf ids mem, x ∈ S) : Inv { P, N, os, S, w0 := w } w ids mem :=
  ⟨Frm.refl _ _, h.1, h.2.1, h.2.2, fun i b hb _ x hx => .inl (hS x (fpsOf_mem h.1 hb x hx))⟩
/-- The same, to be read only. -/
def ro : Mem → Mem
  | [] => []
  | ⟨t, cs, _⟩ :: r => ⟨t, cs, false⟩ :: ro r
theorem nth_ro : ∀ {mem : Mem} {i : Nat} {b : SBlk}, nth (ro mem) i = some b → b.rw = false ∧ ∃ b', nth mem i = some b' ∧ b = { b' with rw := false }
  | [], i, b, h => by cases i <;> simp [ro, nth] at h
  | ⟨t, cs, q⟩ :: r, 0, b, h => by simp [ro, nth] at h; subst h; exact ⟨rfl, _, rfl, rfl⟩
  | ⟨t, cs, q⟩ :: r, i + 1, b, h => nth_ro (mem := r) (i := i) (by simpa [ro, nth] using h)
theorem ro_len : ∀ mem : Mem, (ro mem).length = mem.length
  | [] => rfl
  | ⟨_, _, _⟩ :: r => by simp [ro, ro_len r]
theorem memRes_read (h : (memRes ids mem).R w) : Inv { P, N, os, S, w0 := w } w ids (ro mem) := by
  have hres : ∀ b' : SBlk, resOf { b' with rw := false } = resOf b' := fun b' => rfl
  have hfp : ∀ i (b' : SBlk), fpOf ids i { b' with rw := false } = fpOf ids i b' := fun i b' => rfl
  refine ⟨Frm.refl _ _, by rw [ro_len]; exact h.1, fun i b hb => ?_, fun i j bi bj hi hj hij => ?_, fun i b hb hr => ?_⟩
  · obtain ⟨_, b', h1, rfl⟩ := nth_ro hb
    exact h.2.1 i b' h1
  · obtain ⟨_, b', h1, rfl⟩ := nth_ro hi
    obtain ⟨_, b'', h2, rfl⟩ := nth_ro hj
    exact h.2.2 i j b' b'' h1 h2 hij
  · obtain ⟨hf, _⟩ := nth_ro hb
    rw [hf] at hr; cases hr

/-- Parts picked out of what is known; blocks told by plain values (f: they may be written). -/
inductive Sel (f : Bool) (ids' : List Nat) (mem' : Mem) : List Nat → List Nat → Mem → Prop
  | nil : Sel f ids' mem' [] [] []
  | res {i n : Nat} {t t' : TypeId} {r : Res} {rw q : Bool} {ix ids : List Nat} {mem : Mem} : nth mem' i = some ⟨t, [.res r], q⟩ → Sel f ids' mem' ix ids mem → (hq : f = true → q = true := by first | exact fun _ => rfl | exact fun h => nomatch h) → Sel f ids' mem' (i :: ix) (n :: ids) (⟨t', [.res r], rw⟩ :: mem)
  | blk {i n : Nat} {t : TypeId} {cs cs2 : List SV} {l : List Value} {rw q : Bool} {ix ids : List Nat} {mem : Mem} : nth mem' i = some ⟨t, cs, q⟩ → ids'[i]? = some n → denL ids' cs = some l → denL [] cs2 = some l → Sel f ids' mem' ix ids mem → (hq : f = true → q = true := by first | exact fun _ => rfl | exact fun h => nomatch h) → Sel f ids' mem' (i :: ix) (n :: ids) (⟨t, cs2, rw⟩ :: mem)

theorem Sel.at_ {f : Bool} {ids' : List Nat} {mem' : Mem} {ix ids : List Nat} {mem : Mem} (h : Sel f ids' mem' ix ids mem) : ids.length = mem.length ∧ ix.length = mem.length ∧ ∀ k b, nth mem k = some b → ∃ i b', ix[k]? = some i ∧ nth mem' i = some b' ∧ (f = true → b'.rw = true) ∧
    ((∃ r, resOf b = some r ∧ resOf b' = some r) ∨ ∃ n l, ids[k]? = some n ∧ ids'[i]? = some n ∧ denL [] b.cells = some l ∧ denL ids' b'.cells = some l ∧ b.ty = b'.ty) := by
  induction h with
  | nil => exact ⟨rfl, rfl, fun k b h => by cases k <;> simp [nth] at h⟩
  | @res i n t t' r rw q ix ids mem h1 _ hq ih =>
    obtain ⟨e1, e2, ih⟩ := ih
    refine ⟨by simp [e1], by simp [e2], fun k b hb => ?_⟩
    cases k with
    | zero =>
      simp [nth] at hb; subst hb
      exact ⟨i, _, rfl, h1, hq, .inl ⟨r, rfl, rfl⟩⟩
    | succ k => exact ih k b hb
  | @blk i n t cs cs2 l rw q ix ids mem h1 h2 h3 h4 _ hq ih =>
    obtain ⟨e1, e2, ih⟩ := ih
    refine ⟨by simp [e1], by simp [e2], fun k b hb => ?_⟩
    cases k with
    | zero =>
      simp [nth] at hb; subst hb
      exact ⟨i, _, rfl, h1, hq, .inr ⟨n, l, rfl, h2, h4, h3, rfl⟩⟩
    | succ k => exact ih k b hb

/-- WHAT IS LEFT BEHIND: the parts that are picked, as one. -/
theorem memRes_pick {f : Bool} {c : Ctx} {w' : World} {ids' : List Nat} {mem' : Mem} (hI : Inv c w' ids' mem') (ix : List Nat) {ids : List Nat} {mem : Mem} (h : Sel f ids' mem' ix ids mem) (hnd : ix.Nodup) :
    (memRes ids mem).R w' ∧ (f = true → ∀ x ∈ (memRes ids mem).fp, x ∈ c.S ∨ c.w0.heap.size ≤ x) := by
  obtain ⟨e1, e2, hat⟩ := h.at_
  have hfp : ∀ k b, nth mem k = some b → ∃ i b', ix[k]? = some i ∧ nth mem' i = some b' ∧ (f = true → b'.rw = true) ∧ fpOf ids k b = fpOf ids' i b' ∧ Good w' ids k b := by
    intro k b hb
    obtain ⟨i, b', h1, h2, h3, h4⟩ := hat k b hb
    refine ⟨i, b', h1, h2, h3, ?_⟩
    rcases h4 with ⟨r, h4, h5⟩ | ⟨n, l, h4, h5, h6, h7, h8⟩
    · refine ⟨by rw [fpOf_res h4, fpOf_res h5], ?_⟩
      have := (hI.good i b' h2).res h5
      unfold Good; rw [h4]; exact this
    · refine ⟨by rw [fpOf_cells (resOf_cells h6) h4, fpOf_cells (resOf_cells h7) h5], ?_⟩
      refine .mk h4 (denL_mono (List.nil_prefix) _ _ h6) ?_
      have := hI.at0 i h2 h5 h7
      rw [h8]; exact this
  refine ⟨⟨e1, fun k b hb => ?_, fun j k bj bk hj hk hjk x hx => ?_⟩, fun hf x hx => ?_⟩
  · obtain ⟨_, _, _, _, _, _, hg⟩ := hfp k b hb; exact hg
  · obtain ⟨i1, b1, h1, h2, _, h4, _⟩ := hfp j bj hj
    obtain ⟨i2, b2, g1, g2, _, g4, _⟩ := hfp k bk hk
    rw [h4] at hx
    rw [g4]
    refine hI.apart i1 i2 b1 b2 h2 g2 (fun e => hjk ?_) x hx
    subst e
    exact (List.getElem?_inj (by have := (List.getElem?_eq_some_iff.1 h1).1; exact this) hnd).1 (h1.trans g1.symm)
  · obtain ⟨k, b, hb, hx⟩ := fpsOf_inv e1 hx
    obtain ⟨i1, b1, h1, h2, h3, h4, _⟩ := hfp k b hb
    rw [h4] at hx
    exact hI.own i1 b1 h2 (h3 hf) x hx
theorem memRes_shut {c : Ctx} {w' : World} {ids' : List Nat} {mem' : Mem} (hI : Inv c w' ids' mem') (ix : List Nat) {ids : List Nat} {mem : Mem} (h : Sel true ids' mem' ix ids mem) (hnd : ix.Nodup) :
    (memRes ids mem).R w' ∧ ∀ x ∈ (memRes ids mem).fp, x ∈ c.S ∨ c.w0.heap.size ≤ x := ⟨(memRes_pick hI ix h hnd).1, (memRes_pick hI ix h hnd).2 rfl⟩
theorem memRes_here {c : Ctx} {w' : World} {ids' : List Nat} {mem' : Mem} (hI : Inv c w' ids' mem') (ix : List Nat) {ids : List Nat} {mem : Mem} (h : Sel false ids' mem' ix ids mem) (hnd : ix.Nodup) :
    (memRes ids mem).R w' := (memRes_pick hI ix h hnd).1
end

/-- A call has turned the part ρ into ρ'. -/
def Post (ρ ρ' : Res) (w w' : World) : Prop := Frm ρ.fp w w' ∧ ρ'.R w' ∧ (∀ x ∈ ρ'.fp, x ∈ ρ.fp ∨ w.heap.size ≤ x) ∧ ∀ x ∈ ρ'.fp, x < w'.heap.size
section
variable {c : Ctx} {w' : World} {ids' : List Nat} {mem' : Mem}
theorem post_shut {ρ : Res} (hI : Inv c w' ids' mem') (hS : c.S = ρ.fp) (ix : List Nat) {ids : List Nat} {mem : Mem} (h : Sel true ids' mem' ix ids mem) (hnd : ix.Nodup) : Post ρ (memRes ids mem) c.w0 w' := by
  obtain ⟨h1, h2⟩ := memRes_shut hI ix h hnd
  exact ⟨hS ▸ hI.frm, h1, hS ▸ h2, memRes_lt h1⟩
theorem post_res {ρ ρ' : Res} (hI : Inv c w' ids' mem') (hS : c.S = ρ.fp) (i : Nat) {b : SBlk} (hb : nth mem' i = some b) (hr : resOf b = some ρ') (hrw : b.rw = true) : Post ρ ρ' c.w0 w' :=
  ⟨hS ▸ hI.frm, hI.res i hb hr, fun x hx => hS ▸ hI.own i b hb hrw x (by rw [fpOf_res hr]; exact hx), hI.resLt i hb hr⟩
/-- A new part. -/
theorem fresh_shut (hI : Inv c w' ids' mem') (hS : c.S = []) (ix : List Nat) {ids : List Nat} {mem : Mem} (h : Sel true ids' mem' ix ids mem) (hnd : ix.Nodup) : Frm [] c.w0 w' ∧ (memRes ids mem).R w' ∧ (∀ x ∈ (memRes ids mem).fp, c.w0.heap.size ≤ x) ∧ ∀ x ∈ (memRes ids mem).fp, x < w'.heap.size := by
  obtain ⟨h1, h2⟩ := memRes_shut hI ix h hnd
  exact ⟨hS ▸ hI.frm, h1, fun x hx => (h2 x hx).resolve_left (by rw [hS]; simp), memRes_lt h1⟩
end

/-! ### Rows of like elements -/
theorem flat_len {α : Type} {f : α → List Value} {size : Nat} (hf : ∀ x, (f x).length = size) (L : List α) : (L.flatMap f).length = L.length * size := by
  induction L with
  | nil => simp
  | cons x L ih => simp [ih, hf, Nat.add_mul]; omega
theorem flat_at {α : Type} {f : α → List Value} {size : Nat} (hf : ∀ x, (f x).length = size) : ∀ {L : List α} {i : Nat} {x : α} (_ : L[i]? = some x) {j : Nat} (_ : j < size), (L.flatMap f)[i * size + j]? = (f x)[j]?
  | [], i, x, h, j, hj => by simp at h
  | y :: L, 0, x, h, j, hj => by
    simp at h; subst h
    simp only [List.flatMap_cons, Nat.zero_mul, Nat.zero_add]
    rw [List.getElem?_append_left (by rw [hf]; exact hj)]
  | y :: L, i + 1, x, h, j, hj => by
    simp only [List.flatMap_cons]
    rw [List.getElem?_append_right (by rw [hf, Nat.add_mul]; omega), hf, show (i + 1) * size + j - size = i * size + j by rw [Nat.add_mul]; omega]
    exact flat_at hf (L := L) (by simpa using h) hj
theorem rowRes_some' {e : TypeId} {size n cap : Nat} {o : Option Addr} {xs : List Value} {w : World} (h : (rowRes e size o n cap xs).R w) (hn : 0 < n) : ∃ g, o = some ⟨g, 0, none⟩ := by
  rcases h.2 with ⟨h1, h2⟩ | ⟨g, cap', cur, h1, _⟩
  · exact absurd h2 (by omega)
  · injection h1 with h1; exact ⟨g, h1⟩
/-- A cell of an element. -/
theorem row_at {α : Type} {f : α → List Value} {e : TypeId} {size n cap g i j : Nat} {L : List α} {x : α} {u : Value} {w : World} {a : Addr} (hf : ∀ x, (f x).length = size) (h : (rowRes e size (some ⟨g, 0, none⟩) n cap (L.flatMap f)).R w) (hx : L[i]? = some x) (hj : j < size) (hu : (f x)[j]? = some u) (ha : a = (⟨g, 0, none⟩ : Addr).add (i * size + j)) : w.cell? a = some u := by
  subst ha
  exact rowRes_cell h ((flat_at hf hx hj).trans hu)
end Go.Proofs.Ytfcbcgjgkleonaa
