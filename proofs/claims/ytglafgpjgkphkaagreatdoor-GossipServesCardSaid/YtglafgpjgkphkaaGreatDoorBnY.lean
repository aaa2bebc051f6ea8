/- A store through a pointer into a part of memory that is known by what holds of it. Memory of several parts, as one part: opened at a function's beginning, shut at its end; elements of rows. make([]T, n): a block of n like elements; one element written. Loops whose rounds may tell memory anew at their end; parts that change places. -/
import Derived.Test.YtglafgpjgkphkaaGreatDoorBnX
import Derived.Laws.OwnMore
namespace Go.Proofs.YtglafgpjgkphkaaGreatDoor
section
set_option linter.unusedVariables false
set_option linter.unusedSimpArgs false
open Go.RowKit

theorem run_storeAt_raw {P : Program} {w : World} {t ty : TypeId} {n o k : Nat} {v : Value} {l : List Value} (hblk : Blk w n l.toArray ty) (hs : sizeB P t = some k) (hsz : v.cells.size = k) (h1 : v.cells.toList.all (·.oneCell') = true) (hle : o + k ≤ l.length) :
    ∃ w', (Instr.storeAt t (.pointer (some ⟨n, o, none⟩)) v).run P w = .ok () w' ∧ Frm [n] w w' ∧ Blk w' n (l.take o ++ v.cells.toList ++ l.drop (o + k)).toArray ty := by
  have hrun := run_storeCells_at (P := P) n o ty v.cells.toList 0 l.toArray w hblk (by simp [hsz]; omega) (fun u hu => by simpa using List.all_eq_true.1 h1 u hu)
  have hs' : (sizeOf t).run P w = .ok k w := sizeB_run (c := { P, N := 0, os := [], S := [], w0 := w }) hs
  refine ⟨_, by simp [Instr.storeAt, Instr.sureAddr, storeVar, hs', hsz]; exact hrun, ?_, ?_⟩
  · exact ⟨rfl, rfl, rfl, by simp, fun m _ hm => setRow_other w n m _ (by simpa using hm), Nat.le_refl _⟩
  · have := setRow_heap w n l.toArray ((l.toArray.toList.take (o + 0) ++ v.cells.toList ++ l.toArray.toList.drop (o + 0 + v.cells.toList.length)).toArray) ty (0, 0) hblk
    simpa [Blk, hsz] using this

section
variable {c : Ctx} {Q : SExit → Fr → Mem → List Nat → World → Prop} {ids : List Nat} {w : World} {fr : Fr} {mem : Mem} {todo : List Task}
theorem add_mk (n k : Nat) : (⟨n, 0, none⟩ : Addr).add k = ⟨n, k, none⟩ := by unfold Addr.add; split <;> simp_all
theorem n_storeA {o : Oper} {t ty : TypeId} {xa xv : Operand} {n off k : Nat} {a : Addr} {l : List Value} {rv : SV} {v : Value} (i : Nat) {bl : SBlk} {ρ : Res} (ρ' : Res) (l' : List Value)
    (ho : o.op = .store t xa xv) (hd : dstOk c o.dst = true) (hx : ev fr xa = some (.raw (.pointer (some a)))) (ha : a = ⟨n, off, none⟩) (hv : ev fr xv = some rv) (hrv : den ids rv = some v) (hs : sizeB c.P t = some k) (hsz : v.cells.size = k) (h1 : v.cells.toList.all (·.oneCell') = true)
    (hb : nth mem i = some bl) (hres : resOf bl = some ρ) (hrw : bl.rw = true) (hin : n ∈ ρ.fp) (hB : ∀ w, ρ.R w → Blk w n l.toArray ty) (hle : off + k ≤ l.length) (hl' : l.take off ++ v.cells.toList ++ l.drop (off + k) = l')
    (hR : ∀ w w', ρ.R w → Frm [n] w w' → Blk w' n l'.toArray ty → ρ'.R w') (hfp : ∀ x ∈ ρ'.fp, x ∈ ρ.fp)
    (hk : satS c Q ⟨putF o.dst .undef fr, setCells mem i [.res ρ'], todo⟩ ids) : satN c Q (.op o ⟨fr, mem, todo⟩) ids :=
  n_runS hd fun ids' w ρ0 hp hI hρ => by
    subst ha
    have hx' := hρ xa _ hx
    simp only [den, Option.some.injEq] at hx'
    have hv' := hρ xv _ hv
    rw [den_mono hp _ _ hrv] at hv'
    simp only [Option.some.injEq] at hv'
    have hR0 := hI.res i hb hres
    obtain ⟨w', hrun, hf, hblk⟩ := run_storeAt_raw (P := c.P) (o := off) (hB w hR0) hs hsz h1 hle
    rw [hl'] at hblk
    refine ⟨w', _, ids', ?_, List.prefix_refl _, hI.updR (ρ' := ρ') i hb hres hrw (hf.mono (by simpa using hin)) (hR w w' hR0 hf hblk) (fun x hx => .inl (hfp x hx)) (fun x hx => Nat.lt_of_lt_of_le (hI.resLt i hb hres x (hfp x hx)) hf.size), satS_mono hp hk⟩
    unfold execOp
    simp [ho, ← hx', ← hv', hrun]
theorem n_storeP {o : Oper} {t ty : TypeId} {xa xv : Operand} {n off k : Nat} {l : List Value} {rv : SV} {v : Value} (i : Nat) {bl : SBlk} {ρ : Res} (ρ' : Res) (l' : List Value)
    (ho : o.op = .store t xa xv) (hd : dstOk c o.dst = true) (hx : ev fr xa = some (.raw (.pointer (some ⟨n, off, none⟩)))) (hv : ev fr xv = some rv) (hrv : den ids rv = some v) (hs : sizeB c.P t = some k) (hsz : v.cells.size = k) (h1 : v.cells.toList.all (·.oneCell') = true)
    (hb : nth mem i = some bl) (hres : resOf bl = some ρ) (hrw : bl.rw = true) (hin : n ∈ ρ.fp) (hB : ∀ w, ρ.R w → Blk w n l.toArray ty) (hle : off + k ≤ l.length) (hl' : l.take off ++ v.cells.toList ++ l.drop (off + k) = l')
    (hR : ∀ w w', ρ.R w → Frm [n] w w' → Blk w' n l'.toArray ty → ρ'.R w') (hfp : ∀ x ∈ ρ'.fp, x ∈ ρ.fp)
    (hk : satS c Q ⟨putF o.dst .undef fr, setCells mem i [.res ρ'], todo⟩ ids) : satN c Q (.op o ⟨fr, mem, todo⟩) ids :=
  n_runS hd fun ids' w ρ0 hp hI hρ => by
    have hx' := hρ xa _ hx
    simp only [den, Option.some.injEq] at hx'
    have hv' := hρ xv _ hv
    rw [den_mono hp _ _ hrv] at hv'
    simp only [Option.some.injEq] at hv'
    have hR0 := hI.res i hb hres
    obtain ⟨w', hrun, hf, hblk⟩ := run_storeAt_raw (P := c.P) (o := off) (hB w hR0) hs hsz h1 hle
    rw [hl'] at hblk
    refine ⟨w', _, ids', ?_, List.prefix_refl _, hI.updR (ρ' := ρ') i hb hres hrw (hf.mono (by simpa using hin)) (hR w w' hR0 hf hblk) (fun x hx => .inl (hfp x hx)) (fun x hx => Nat.lt_of_lt_of_le (hI.resLt i hb hres x (hfp x hx)) hf.size), satS_mono hp hk⟩
    unfold execOp
    simp [ho, ← hx', ← hv', hrun]
end
end
section
set_option linter.unusedVariables false
set_option linter.unusedSimpArgs false
open Go.RowKit

theorem fpsOf_inv {ids : List Nat} : ∀ {mem : Mem} {x : Nat}, ids.length = mem.length → x ∈ fpsOf ids mem → ∃ i b, nth mem i = some b ∧ x ∈ fpOf ids i b := by
  induction ids with
  | nil => intro mem x hl h; cases mem <;> simp at *
  | cons n ids ih =>
    intro mem x hl h
    cases mem with
    | nil => simp at hl
    | cons a mem =>
      simp only [fpsOf, List.mem_append] at h
      rcases h with h | h
      · refine ⟨0, a, rfl, ?_⟩
        unfold fpOf
        cases hr : resOf a with
        | some r => rw [hr] at h; simpa using h
        | none => rw [hr] at h; simpa using h
      · obtain ⟨i, b, h1, h2⟩ := ih (mem := mem) (by simpa using hl) h
        refine ⟨i + 1, b, h1, ?_⟩
        have : fpOf (n :: ids) (i + 1) b = fpOf ids i b := by unfold fpOf; simp
        rw [this]; exact h2

theorem Good.keep' {w w' : World} {ids : List Nat} {i : Nat} {b : SBlk} (h : Good w ids i b) (hk : ∀ x ∈ fpOf ids i b, w'.heap[x]? = w.heap[x]?) : Good w' ids i b := by
  have hlt : ∀ x ∈ fpOf ids i b, x < w'.heap.size := fun x hx => by
    have h1 := h.lt x hx
    have h2 := hk x hx
    rw [Array.getElem?_eq_getElem h1] at h2
    exact (Array.getElem?_eq_some_iff.1 h2).1
  cases hr : resOf b with
  | some r =>
    rw [fpOf_res hr] at hk hlt
    have h1 := h.res hr
    unfold Good; rw [hr]
    exact ⟨r.stable _ _ hk h1.1, hlt⟩
  | none =>
    obtain ⟨n, l, hn, hd, hb⟩ := h.blk hr
    rw [fpOf_cells hr hn] at hk
    exact .mk hn hd ((hk n (by simp)).trans hb)

/-- Several parts as one. -/
def memRes (ids : List Nat) (mem : Mem) : Res where
  fp := fpsOf ids mem
  R w := ids.length = mem.length ∧ (∀ i b, nth mem i = some b → Good w ids i b) ∧ ∀ i j bi bj, nth mem i = some bi → nth mem j = some bj → i ≠ j → ∀ x ∈ fpOf ids i bi, x ∉ fpOf ids j bj
  stable := fun w w' hk ⟨h1, h2, h3⟩ => ⟨h1, fun i b hb => (h2 i b hb).keep' fun x hx => hk x (fpsOf_mem h1 hb x hx), h3⟩
theorem memRes_lt {ids : List Nat} {mem : Mem} {w : World} (h : (memRes ids mem).R w) : ∀ x ∈ (memRes ids mem).fp, x < w.heap.size := fun x hx => by
  obtain ⟨h1, h2, _⟩ := h
  obtain ⟨i, b, hb, hx⟩ := fpsOf_inv h1 hx
  exact (h2 i b hb).lt x hx
theorem memRes_res {ids : List Nat} {mem : Mem} {w : World} (h : (memRes ids mem).R w) (i : Nat) {b : SBlk} {ρ : Res} (hb : nth mem i = some b) (hr : resOf b = some ρ) : ρ.R w := ((h.2.1 i b hb).res hr).1
theorem memRes_blk {ids : List Nat} {mem : Mem} {w : World} (h : (memRes ids mem).R w) (i : Nat) {b : SBlk} {n : Nat} {l : List Value} (hb : nth mem i = some b) (hn : ids[i]? = some n) (hd : denL ids b.cells = some l) : Blk w n l.toArray b.ty := by
  obtain ⟨n', l', h1, h2, h3⟩ := (h.2.1 i b hb).blk (resOf_cells hd)
  rw [hn] at h1; simp at h1; subst h1
  rw [hd] at h2; simp at h2; subst h2
  exact h3

section
variable {P : Program} {N : Nat} {os : List (Nat × Odr)} {S : List Nat} {w : World} {ids : List Nat} {mem : Mem}
/-- Opened: all of it may be written. -/
theorem memRes_open (h : (memRes ids mem).R w) (hS : ∀ x ∈ fpsOf ids mem, x ∈ S) : Inv { P, N, os, S, w0 := w } w ids mem :=
  ⟨Frm.refl _ _, h.1, h.2.1, h.2.2, fun i b hb _ x hx => .inl (hS x (fpsOf_mem h.1 hb x hx))⟩
/-- The same, to be read only. -/
def ro : Mem → Mem
  | [] => []
  | ⟨t, cs, _⟩ :: r => ⟨t, cs, false⟩ :: ro r
theorem nth_ro : ∀ {mem : Mem} {i : Nat} {b : SBlk}, nth (ro mem) i = some b → b.rw = false ∧ ∃ b', nth mem i = some b' ∧ b = { b' with rw := false }
  | [], i, b, h => by cases i <;> simp [ro, nth] at h
  | ⟨t, cs, q⟩ :: r, 0, b, h => by simp [ro, nth] at h; subst h; exact ⟨rfl, _, rfl, rfl⟩
  | ⟨t, cs, q⟩ :: r, i + 1, b, h => nth_ro (mem := r) (i := i) (by simpa [ro, nth] using h)
theorem ro_len : ∀ mem : Mem, (ro mem).length = mem.length
  | [] => rfl
  | ⟨_, _, _⟩ :: r => by simp [ro, ro_len r]
theorem memRes_read (h : (memRes ids mem).R w) : Inv { P, N, os, S, w0 := w } w ids (ro mem) := by
  have hres : ∀ b' : SBlk, resOf { b' with rw := false } = resOf b' := fun b' => rfl
  have hfp : ∀ i (b' : SBlk), fpOf ids i { b' with rw := false } = fpOf ids i b' := fun i b' => rfl
  refine ⟨Frm.refl _ _, by rw [ro_len]; exact h.1, fun i b hb => ?_, fun i j bi bj hi hj hij => ?_, fun i b hb hr => ?_⟩
  · obtain ⟨_, b', h1, rfl⟩ := nth_ro hb
    exact h.2.1 i b' h1
  · obtain ⟨_, b', h1, rfl⟩ := nth_ro hi
    obtain ⟨_, b'', h2, rfl⟩ := nth_ro hj
    exact h.2.2 i j b' b'' h1 h2 hij
  · obtain ⟨hf, _⟩ := nth_ro hb
    rw [hf] at hr; cases hr

/-- Parts picked out of what is known; blocks told by plain values (f: they may be written). -/
inductive Sel (f : Bool) (ids' : List Nat) (mem' : Mem) : List Nat → List Nat → Mem → Prop
  | nil : Sel f ids' mem' [] [] []
  | res {i n : Nat} {t t' : TypeId} {r : Res} {rw q : Bool} {ix ids : List Nat} {mem : Mem} : nth mem' i = some ⟨t, [.res r], q⟩ → Sel f ids' mem' ix ids mem → (hq : f = true → q = true := by first | exact fun _ => rfl | exact fun h => nomatch h) → Sel f ids' mem' (i :: ix) (n :: ids) (⟨t', [.res r], rw⟩ :: mem)
  | blk {i n : Nat} {t : TypeId} {cs cs2 : List SV} {l : List Value} {rw q : Bool} {ix ids : List Nat} {mem : Mem} : nth mem' i = some ⟨t, cs, q⟩ → ids'[i]? = some n → denL ids' cs = some l → denL [] cs2 = some l → Sel f ids' mem' ix ids mem → (hq : f = true → q = true := by first | exact fun _ => rfl | exact fun h => nomatch h) → Sel f ids' mem' (i :: ix) (n :: ids) (⟨t, cs2, rw⟩ :: mem)

theorem Sel.at_ {f : Bool} {ids' : List Nat} {mem' : Mem} {ix ids : List Nat} {mem : Mem} (h : Sel f ids' mem' ix ids mem) : ids.length = mem.length ∧ ix.length = mem.length ∧ ∀ k b, nth mem k = some b → ∃ i b', ix[k]? = some i ∧ nth mem' i = some b' ∧ (f = true → b'.rw = true) ∧
    ((∃ r, resOf b = some r ∧ resOf b' = some r) ∨ ∃ n l, ids[k]? = some n ∧ ids'[i]? = some n ∧ denL [] b.cells = some l ∧ denL ids' b'.cells = some l ∧ b.ty = b'.ty) := by
  induction h with
  | nil => exact ⟨rfl, rfl, fun k b h => by cases k <;> simp [nth] at h⟩
  | @res i n t t' r rw q ix ids mem h1 _ hq ih =>
    obtain ⟨e1, e2, ih⟩ := ih
    refine ⟨by simp [e1], by simp [e2], fun k b hb => ?_⟩
    cases k with
    | zero =>
      simp [nth] at hb; subst hb
      exact ⟨i, _, rfl, h1, hq, .inl ⟨r, rfl, rfl⟩⟩
    | succ k => exact ih k b hb
  | @blk i n t cs cs2 l rw q ix ids mem h1 h2 h3 h4 _ hq ih =>
    obtain ⟨e1, e2, ih⟩ := ih
    refine ⟨by simp [e1], by simp [e2], fun k b hb => ?_⟩
    cases k with
    | zero =>
      simp [nth] at hb; subst hb
      exact ⟨i, _, rfl, h1, hq, .inr ⟨n, l, rfl, h2, h4, h3, rfl⟩⟩
    | succ k => exact ih k b hb

/-- WHAT IS LEFT BEHIND: the parts that are picked, as one. -/
theorem memRes_pick {f : Bool} {c : Ctx} {w' : World} {ids' : List Nat} {mem' : Mem} (hI : Inv c w' ids' mem') (ix : List Nat) {ids : List Nat} {mem : Mem} (h : Sel f ids' mem' ix ids mem) (hnd : ix.Nodup) :
    (memRes ids mem).R w' ∧ (f = true → ∀ x ∈ (memRes ids mem).fp, x ∈ c.S ∨ c.w0.heap.size ≤ x) := by
  obtain ⟨e1, e2, hat⟩ := h.at_
  have hfp : ∀ k b, nth mem k = some b → ∃ i b', ix[k]? = some i ∧ nth mem' i = some b' ∧ (f = true → b'.rw = true) ∧ fpOf ids k b = fpOf ids' i b' ∧ Good w' ids k b := by
    intro k b hb
    obtain ⟨i, b', h1, h2, h3, h4⟩ := hat k b hb
    refine ⟨i, b', h1, h2, h3, ?_⟩
    rcases h4 with ⟨r, h4, h5⟩ | ⟨n, l, h4, h5, h6, h7, h8⟩
    · refine ⟨by rw [fpOf_res h4, fpOf_res h5], ?_⟩
      have := (hI.good i b' h2).res h5
      unfold Good; rw [h4]; exact this
    · refine ⟨by rw [fpOf_cells (resOf_cells h6) h4, fpOf_cells (resOf_cells h7) h5], ?_⟩
      refine .mk h4 (denL_mono (List.nil_prefix) _ _ h6) ?_
      have := hI.at0 i h2 h5 h7
      rw [h8]; exact this
  refine ⟨⟨e1, fun k b hb => ?_, fun j k bj bk hj hk hjk x hx => ?_⟩, fun hf x hx => ?_⟩
  · obtain ⟨_, _, _, _, _, _, hg⟩ := hfp k b hb; exact hg
  · obtain ⟨i1, b1, h1, h2, _, h4, _⟩ := hfp j bj hj
    obtain ⟨i2, b2, g1, g2, _, g4, _⟩ := hfp k bk hk
    rw [h4] at hx
    rw [g4]
    refine hI.apart i1 i2 b1 b2 h2 g2 (fun e => hjk ?_) x hx
    subst e
    exact (List.getElem?_inj (by have := (List.getElem?_eq_some_iff.1 h1).1; exact this) hnd).1 (h1.trans g1.symm)
  · obtain ⟨k, b, hb, hx⟩ := fpsOf_inv e1 hx
    obtain ⟨i1, b1, h1, h2, h3, h4, _⟩ := hfp k b hb
    rw [h4] at hx
    exact hI.own i1 b1 h2 (h3 hf) x hx
theorem memRes_shut {c : Ctx} {w' : World} {ids' : List Nat} {mem' : Mem} (hI : Inv c w' ids' mem') (ix : List Nat) {ids : List Nat} {mem : Mem} (h : Sel true ids' mem' ix ids mem) (hnd : ix.Nodup) :
    (memRes ids mem).R w' ∧ ∀ x ∈ (memRes ids mem).fp, x ∈ c.S ∨ c.w0.heap.size ≤ x := ⟨(memRes_pick hI ix h hnd).1, (memRes_pick hI ix h hnd).2 rfl⟩
theorem memRes_here {c : Ctx} {w' : World} {ids' : List Nat} {mem' : Mem} (hI : Inv c w' ids' mem') (ix : List Nat) {ids : List Nat} {mem : Mem} (h : Sel false ids' mem' ix ids mem) (hnd : ix.Nodup) :
    (memRes ids mem).R w' := (memRes_pick hI ix h hnd).1
end

/-- A call has turned the part ρ into ρ'. -/
def Post (ρ ρ' : Res) (w w' : World) : Prop := Frm ρ.fp w w' ∧ ρ'.R w' ∧ (∀ x ∈ ρ'.fp, x ∈ ρ.fp ∨ w.heap.size ≤ x) ∧ ∀ x ∈ ρ'.fp, x < w'.heap.size
section
variable {c : Ctx} {w' : World} {ids' : List Nat} {mem' : Mem}
theorem post_shut {ρ : Res} (hI : Inv c w' ids' mem') (hS : c.S = ρ.fp) (ix : List Nat) {ids : List Nat} {mem : Mem} (h : Sel true ids' mem' ix ids mem) (hnd : ix.Nodup) : Post ρ (memRes ids mem) c.w0 w' := by
  obtain ⟨h1, h2⟩ := memRes_shut hI ix h hnd
  exact ⟨hS ▸ hI.frm, h1, hS ▸ h2, memRes_lt h1⟩
theorem post_res {ρ ρ' : Res} (hI : Inv c w' ids' mem') (hS : c.S = ρ.fp) (i : Nat) {b : SBlk} (hb : nth mem' i = some b) (hr : resOf b = some ρ') (hrw : b.rw = true) : Post ρ ρ' c.w0 w' :=
  ⟨hS ▸ hI.frm, hI.res i hb hr, fun x hx => hS ▸ hI.own i b hb hrw x (by rw [fpOf_res hr]; exact hx), hI.resLt i hb hr⟩
/-- A new part. -/
theorem fresh_shut (hI : Inv c w' ids' mem') (hS : c.S = []) (ix : List Nat) {ids : List Nat} {mem : Mem} (h : Sel true ids' mem' ix ids mem) (hnd : ix.Nodup) : Frm [] c.w0 w' ∧ (memRes ids mem).R w' ∧ (∀ x ∈ (memRes ids mem).fp, c.w0.heap.size ≤ x) ∧ ∀ x ∈ (memRes ids mem).fp, x < w'.heap.size := by
  obtain ⟨h1, h2⟩ := memRes_shut hI ix h hnd
  exact ⟨hS ▸ hI.frm, h1, fun x hx => (h2 x hx).resolve_left (by rw [hS]; simp), memRes_lt h1⟩
end

/-! ### Rows of like elements -/
theorem flat_len {α : Type} {f : α → List Value} {size : Nat} (hf : ∀ x, (f x).length = size) (L : List α) : (L.flatMap f).length = L.length * size := by
  induction L with
  | nil => simp
  | cons x L ih => simp [ih, hf, Nat.add_mul]; omega
theorem flat_at {α : Type} {f : α → List Value} {size : Nat} (hf : ∀ x, (f x).length = size) : ∀ {L : List α} {i : Nat} {x : α} (_ : L[i]? = some x) {j : Nat} (_ : j < size), (L.flatMap f)[i * size + j]? = (f x)[j]?
  | [], i, x, h, j, hj => by simp at h
  | y :: L, 0, x, h, j, hj => by
    simp at h; subst h
    simp only [List.flatMap_cons, Nat.zero_mul, Nat.zero_add]
    rw [List.getElem?_append_left (by rw [hf]; exact hj)]
  | y :: L, i + 1, x, h, j, hj => by
    simp only [List.flatMap_cons]
    rw [List.getElem?_append_right (by rw [hf, Nat.add_mul]; omega), hf, show (i + 1) * size + j - size = i * size + j by rw [Nat.add_mul]; omega]
    exact flat_at hf (L := L) (by simpa using h) hj
theorem rowRes_some' {e : TypeId} {size n cap : Nat} {o : Option Addr} {xs : List Value} {w : World} (h : (rowRes e size o n cap xs).R w) (hn : 0 < n) : ∃ g, o = some ⟨g, 0, none⟩ := by
  rcases h.2 with ⟨h1, h2⟩ | ⟨g, cap', cur, h1, _⟩
  · exact absurd h2 (by omega)
  · injection h1 with h1; exact ⟨g, h1⟩
/-- A cell of an element. -/
theorem row_at {α : Type} {f : α → List Value} {e : TypeId} {size n cap g i j : Nat} {L : List α} {x : α} {u : Value} {w : World} {a : Addr} (hf : ∀ x, (f x).length = size) (h : (rowRes e size (some ⟨g, 0, none⟩) n cap (L.flatMap f)).R w) (hx : L[i]? = some x) (hj : j < size) (hu : (f x)[j]? = some u) (ha : a = (⟨g, 0, none⟩ : Addr).add (i * size + j)) : w.cell? a = some u := by
  subst ha
  exact rowRes_cell h ((flat_at hf hx hj).trans hu)
end
section
set_option linter.unusedVariables false
set_option linter.unusedSimpArgs false
open Go.RowKit

/-- A block known whole, as a part. -/
def cellsRes (b : Nat) (l : List Value) (t : TypeId) : Res where
  fp := [b]
  R w := Blk w b l.toArray t
  stable := fun w w' hk h => (hk b (by simp)).trans h

theorem madeCells_flat (z : Array Value) (n : Nat) : (madeCells z (n * z.size)).toList = (List.replicate n z.toList).flatten := by
  induction n with
  | zero => simp [madeCells]
  | succ n ih =>
    have h1 : (madeCells z ((n + 1) * z.size)).toList = (madeCells z (n * z.size)).toList ++ z.toList := by
      apply List.ext_getElem
      · simp [madeCells, Nat.add_mul]
      · intro i h1 h2
        simp only [madeCells, Array.toList_map, Array.toList_range, List.getElem_map, List.getElem_range]
        simp [madeCells, Nat.add_mul] at h1
        rcases Nat.lt_or_ge i (n * z.size) with h | h
        · rw [List.getElem_append_left (by simpa [madeCells] using h)]
          simp [madeCells]
        · have hlen : (madeCells z (n * z.size)).toList.length = n * z.size := by simp [madeCells]
          rw [List.getElem_append_right (by simpa using h)]
          have hz : i - n * z.size < z.size := by omega
          have hm : i % z.size = i - n * z.size := by
            have e : i = (i - n * z.size) + z.size * n := by rw [Nat.mul_comm z.size n]; omega
            rw [e, Nat.add_mul_mod_self_left, Nat.mod_eq_of_lt hz]
            rw [Nat.mul_comm z.size n]; omega
          have : ∀ (j k : Nat) (_ : j = k) (hk : k < z.size) (hk2 : k < z.toList.length), z[j]! = z.toList[k] := by
            intro j k e hk hk2; subst e; simp [hk]
          exact this _ _ (by rw [hm]; simp) (by simpa using hz) _
    rw [h1, ih, List.replicate_succ']
    simp

section
variable {c : Ctx} {Q : SExit → Fr → Mem → List Nat → World → Prop} {ids : List Nat} {w : World} {fr : Fr} {mem : Mem} {todo : List Task}
theorem n_makeSlice {o : Oper} {t e : TypeId} {x y : Operand} {n bytes : Nat} {it : TypeInfo} {z : Value} (ty : TypeId) (ho : o.op = .makeSlice t x y) (hd : dstOk c o.dst = true) (hl : mem.length = ids.length) (hu : c.P.underlying t = some (.slice e)) (hit : c.P.info? e = some it) (hz : it.zero = some z) (hsz : it.size = z.cells.size) (hby : it.bytes = bytes)
    (hx : ev fr x = some (.int .i64 (n : Int))) (hy : ev fr y = some (.int .i64 (n : Int))) (hn : bytes * n ≤ 281474976710656) (h63 : n ≤ 9223372036854775807)
    (hk : ∀ b, c.w0.heap.size ≤ b → satS c Q ⟨putF o.dst (.raw (.slice (some ⟨b, 0, none⟩) n n)) fr, mem ++ [⟨ty, [.res (cellsRes b (List.replicate n z.cells.toList).flatten e)], true⟩], todo⟩ (ids ++ [0])) : satN c Q (.op o ⟨fr, mem, todo⟩) ids :=
  n_run hd fun ids' w ρ0 hp hI hρ => by
    obtain rfl := ext0 hp (by rw [hI.len, hl])
    have hx' := hρ x _ hx
    have hy' := hρ y _ hy
    simp only [den, Option.some.injEq] at hx' hy'
    have hb : (it.bytes : Int) * (n : Int) ≤ 281474976710656 := by
      rw [hby]
      have h : ((bytes * n : Nat) : Int) ≤ 281474976710656 := by omega
      rwa [Int.natCast_mul] at h
    have hrun := run_make (P := c.P) w t e it z hu hit hz .i64 .i64 (n : Int) (n : Int) (by omega) (Int.le_refl _) hb (by omega)
    simp only [Int.toNat_natCast] at hrun
    have hf : Frm [] w (w.alloc (.cells (madeCells z.cells (n * it.size)) e)) := (Frm.refl [] w).alloc _
    refine ⟨_, _, .raw (.slice (some ⟨w.heap.size, 0, none⟩) n n), _, _, ?_, rfl, List.prefix_append _ _, hI.addR hf (cellsRes w.heap.size (List.replicate n z.cells.toList).flatten e) ty true ?_ (by simp [cellsRes]) (by simp [cellsRes]), hk _ hI.frm.size⟩
    · unfold execOp
      simp [ho, ← hx', ← hy', hrun]
    · show Blk _ _ _ _
      rw [← madeCells_flat, ← hsz]
      exact Blk.new w _ e
end

/-! ### One element written -/
theorem flat_set {α : Type} {f : α → List Value} {size : Nat} (hf : ∀ x, (f x).length = size) : ∀ {L : List α} {i : Nat} {x : α} (_ : i < L.length), (L.flatMap f).take (i * size) ++ f x ++ (L.flatMap f).drop (i * size + size) = (L.set i x).flatMap f
  | [], i, x, h => by simp at h
  | y :: L, 0, x, h => by
    simp only [List.flatMap_cons, Nat.zero_mul, List.take_zero, List.nil_append, Nat.zero_add, List.set_cons_zero]
    rw [List.drop_append, hf, Nat.sub_self, List.drop_zero, List.drop_of_length_le (by rw [hf]; omega)]
    simp
  | y :: L, i + 1, x, h => by
    have ih := flat_set hf (L := L) (i := i) (x := x) (by simpa using h)
    simp only [List.flatMap_cons, List.set_cons_succ]
    rw [← ih, List.take_append, List.drop_append, hf, show (i + 1) * size - size = i * size by rw [Nat.add_mul]; omega, show (i + 1) * size + size - size = i * size + size by rw [Nat.add_mul]; omega,
      List.take_of_length_le (by rw [hf, Nat.add_mul]; omega), List.drop_of_length_le (by rw [hf, Nat.add_mul]; omega)]
    simp
theorem map_set {α : Type} {f : α → Value} {L : List α} {i : Nat} {x : α} (h : i < L.length) : (L.map f).take i ++ [f x] ++ (L.map f).drop (i + 1) = (L.set i x).map f := by
  rw [List.map_set, List.set_eq_take_append_cons_drop, if_pos (by simpa using h)]
  simp
theorem cellsRes_at {b : Nat} {l : List Value} {t : TypeId} {w : World} (h : (cellsRes b l t).R w) {a : Addr} {j : Nat} {u : Value} (hu : l[j]? = some u) (ha : a = (⟨b, 0, none⟩ : Addr).add j) : w.cell? a = some u := by
  subst ha
  have hadd : (⟨b, 0, none⟩ : Addr).add j = ⟨b, j, none⟩ := by unfold Addr.add; split <;> simp_all
  rw [hadd, Blk.cell h]
  simpa using hu
end
section
set_option linter.unusedVariables false
set_option linter.unusedSimpArgs false
open Go.RowKit

section
variable {c : Ctx} {Q : SExit → Fr → Mem → List Nat → World → Prop} {ids : List Nat} {w : World} {fr : Fr} {mem : Mem} {todo : List Task}

/-- The end of a round. -/
def roundM (c : Ctx) (Q : SExit → Fr → Mem → List Nat → World → Prop) (todo : List Task) (N : Fr → Mem → List Nat → World → Prop) : SExit → Fr → Mem → List Nat → World → Prop := fun x fr' mem' ids' w' =>
  match x with
  | .normal => N fr' mem' ids' w'
  | .exit i => match popTo i todo with | some r => satS c Q ⟨fr', mem', r⟩ ids' | none => False
  | .ret => satN c Q (.fin .ret fr' mem') ids'

theorem n_loopM {σ : Type} (F : σ → Fr) (M : σ → Mem) (J : σ → Prop) (μ : σ → Nat) (s0 : σ) {body : Code}
    (hm : c.P.follows .mixedOrders = true) (h0 : J s0) (hl : ∀ s, J s → ids.length = (M s).length) (hM : ∀ w, Inv c w ids mem → Inv c w ids (M s0)) (hlm : ids.length = mem.length) (hF : FrSub (F s0) fr)
    (hd : ∀ s, J s → FrDen ids (F s) ∧ MemDen ids (M s))
    (round : ∀ s, J s → satS c (roundM c Q todo fun fr' mem' ids2 w' => ∃ s', J s' ∧ μ s' < μ s ∧ FrSub (F s') fr' ∧ ∃ junk, Inv c w' ids2 (M s' ++ junk)) ⟨F s, M s, [.code body]⟩ ids) : satN c Q (.loop body ⟨fr, mem, todo⟩) ids := by
  refine satN_iff.2 fun ids' w a hp hI hFr => ?_
  obtain rfl := ext0 hp (by rw [hI.len, hlm])
  have hIM := hM w hI
  refine wp_loop_ghost (fun n a w => ∃ s, μ s = n ∧ J s ∧ FrOk c ids' (F s) a ∧ Inv c w ids' (M s)) (μ s0) ⟨s0, rfl, h0, hFr.sub (List.prefix_refl _) hF (hd s0 h0).1, hIM⟩ ?_
  rintro n a w ⟨s, rfl, hJ, hFs, hIs⟩
  have h := satS_iff.1 (round s hJ)
  unfold treeOf at h
  rw [cont_code] at h
  refine exec_ok hm (ids0 := ids') body ?_ (List.prefix_refl _) (List.prefix_refl _) hIs hFs h
  intro x fr' mem' idsk ids2 a' w' h0' hs hp2 hF2 hI2
  simp only [cont, sat] at hs
  have hq := hs ids2 w' hp2 hI2
  have hp3 := h0'.trans hp2
  cases x with
  | normal =>
    obtain ⟨s', hJ', hμ, hsub, junk, hI3⟩ := hq
    exact ⟨μ s', hμ, s', rfl, hJ', hF2.sub hp3 hsub (hd s' hJ').1, hI3.forget hp3 (hl s' hJ') (hd s' hJ').2⟩
  | exit i =>
    refine ⟨.exit i, fr', mem', ids2, rfl, hp3, hF2, hI2, ?_⟩
    simp only [roundM] at hq
    rw [cont_pop]
    split at hq
    · rename_i r hr
      simp only [hr]
      exact satS_iff.1 hq
    · exact hq.elim
  | ret =>
    refine ⟨.ret, fr', mem', ids2, rfl, hp3, hF2, hI2, ?_⟩
    simp only [roundM] at hq
    rw [cont_ret]
    exact satN_iff.1 hq
section
variable {N : Fr → Mem → List Nat → World → Prop}
/-- The loop is left. -/
theorem n_exitM {i : Nat} {r : List Task} (hr : popTo i todo = some r) (h : satS c Q ⟨fr, mem, r⟩ ids) : satN c (roundM c Q todo N) (.fin (.exit i) fr mem) ids :=
  n_fin fun ids' w' hp _ => by
    simp only [roundM, hr]
    exact satS_mono hp h
/-- Another round. -/
theorem n_againM (h : ∀ ids' w', ids <+: ids' → Inv c w' ids' mem → N fr mem ids' w') : satN c (roundM c Q todo N) (.fin .normal fr mem) ids := n_fin fun ids' w' hp hI => h ids' w' hp hI
/-- The function is left. -/
theorem n_leaveM (h : satN c Q (.fin .ret fr mem) ids) : satN c (roundM c Q todo N) (.fin .ret fr mem) ids := n_fin fun ids' w' hp _ => satN_iff.2 fun ids2 w2 hp2 hI2 => satN_iff.1 h ids2 w2 (hp.trans hp2) hI2
end

/-- Part j goes to the place i (what was there is forgotten). -/
theorem Inv.moveR (hI : Inv c w ids mem) (i j : Nat) {b b2 : SBlk} {ρ σ : Res} (hij : i ≠ j) (hb : nth mem i = some b) (hr : resOf b = some ρ) (hb2 : nth mem j = some b2) (hr2 : resOf b2 = some σ) (hrw : b.rw = true) (hrw2 : b2.rw = true) :
    Inv c w ids (setCells (setCells mem i [.res σ]) j [.res Res.none]) := by
  have h := hI.absorb i j hij hb hr hb2 hr2 hrw hrw2
  have hne : nth (setCells mem i [.res (ρ.both σ)]) j = some b2 := by rw [nth_setCells_ne hij]; exact hb2
  have hi1 : nth (setCells (setCells mem i [.res (ρ.both σ)]) j [.res Res.none]) i = some { b with cells := [.res (ρ.both σ)] } := by rw [nth_setCells_ne (fun e => hij e.symm), nth_setCells hb]
  have h2 := h.updR (w' := w) (ρ' := σ) i hi1 (ρ := ρ.both σ) rfl hrw ((Frm.refl [] w).mono (by simp)) (h.res i hi1 rfl).2.1 (fun x hx => .inl (by simp [Res.both, hx])) (hI.resLt j hb2 hr2)
  have e : setCells (setCells (setCells mem i [.res (ρ.both σ)]) j [.res Res.none]) i [.res σ] = setCells (setCells mem i [.res σ]) j [.res Res.none] := by
    rw [setCells_eq hi1, setCells_eq hne, setCells_eq hb]
    rw [setCells_eq (mem := setCells mem i [.res σ]) (i := j) (b := b2) (by rw [nth_setCells_ne hij]; exact hb2), setCells_eq hb]
    have comm : ∀ (l : List SBlk) (i j : Nat) (x y z : SBlk), i ≠ j → setNth (setNth (setNth l i x) j y) i z = setNth (setNth l i z) j y := by
      intro l
      induction l with
      | nil => intros; rfl
      | cons a l ih =>
        intro i j x y z hij
        cases i with
        | zero => cases j with
          | zero => exact absurd rfl hij
          | succ j => rfl
        | succ i => cases j with
          | zero =>
            simp only [setNth]
            congr 1
            have : ∀ (l : List SBlk) (i : Nat) (x z : SBlk), setNth (setNth l i x) i z = setNth l i z := by
              intro l
              induction l with
              | nil => intros; rfl
              | cons a l ih => intro i x z; cases i with | zero => rfl | succ i => simp only [setNth, ih]
            exact this l i x z
          | succ j => simp only [setNth, ih i j x y z (by omega)]
    exact comm _ _ _ _ _ _ hij
  rw [← e]
  exact h2
theorem n_call3 {f : FuncId} {args : List SV} {dst : Option Nat} (hl : mem.length = ids.length + 3) (h : ∀ n m k, satN c Q (.call f args dst ⟨fr, mem, todo⟩) (ids ++ [n, m, k])) : satN c Q (.call f args dst ⟨fr, mem, todo⟩) ids :=
  n_callE fun ids' hp hl' => by
    obtain ⟨n, m, k, rfl⟩ := ext3 hp (by rw [hl', hl])
    exact h n m k
theorem n_call4 {f : FuncId} {args : List SV} {dst : Option Nat} (hl : mem.length = ids.length + 4) (h : ∀ n m k j, satN c Q (.call f args dst ⟨fr, mem, todo⟩) (ids ++ [n, m, k, j])) : satN c Q (.call f args dst ⟨fr, mem, todo⟩) ids :=
  n_callE fun ids' hp hl' => by
    obtain ⟨n, m, k, j, rfl⟩ := ext4 hp (by rw [hl', hl])
    exact h n m k j
/-- Memory told otherwise ahead of a loop. -/
theorem n_loopI {body : Code} (mem' : Mem) (hm : ∀ ids' w, ids <+: ids' → Inv c w ids' mem → Inv c w ids' mem') (h : satN c Q (.loop body ⟨fr, mem', todo⟩) ids) : satN c Q (.loop body ⟨fr, mem, todo⟩) ids :=
  satN_iff.2 fun ids' w a hp hI hF => satN_iff.1 h ids' w a hp (hm ids' w hp hI) hF
end
end
end Go.Proofs.YtglafgpjgkphkaaGreatDoor
