/- What the reckoner reckons is what the code does: its soundness. -/
import Derived.Test.YtglafgpjgkphkaaGreatDoorSx
import Derived.Laws.StructEq
import Derived.Laws.Tables
namespace Go.Proofs.YtglafgpjgkphkaaGreatDoor
open Go.RowKit

theorem forceIn_eq {α : Type} (l : List Nat) (n : Nat) (k : Nat → α) : forceIn l n k = k n := by
  induction l with
  | nil => rfl
  | cons m r ih =>
    simp only [forceIn]
    cases h : Nat.beq n m with
    | true => rw [Nat.eq_of_beq_eq_true h]
    | false => exact ih
theorem forceNat_eq {α : Type} (n : Nat) (k : Nat → α) : forceNat n k = k n := forceIn_eq _ n k


/-! ### Places -/
mutual
theorem den_mono {ids ids' : List Nat} (h : ids <+: ids') : ∀ (x : SV) (v : Value), den ids x = some v → den ids' x = some v
  | .lit _, _, e => e
  | .bool _, _, e => e
  | .int _ _, _, e => e
  | .str _, _, e => e
  | .ptr i o, v, e => by
    simp only [den] at e ⊢
    cases hi : ids[i]? with
    | none => simp [hi] at e
    | some b =>
      have : ids'[i]? = some b := by
        obtain ⟨r, rfl⟩ := h
        rw [List.getElem?_append_left (by have := List.getElem?_eq_some_iff.1 hi; exact this.1)]; exact hi
      simp only [hi] at e
      simp only [this]; exact e
  | .nilp, _, e => e
  | .undef, _, e => e
  | .agg cs, v, e => by
    simp only [den] at e ⊢
    cases hc : denL ids cs with
    | none => simp [hc] at e
    | some l =>
      rw [denL_mono h cs l hc]
      simpa [hc] using e
  | .tup cs, v, e => by
    simp only [den] at e ⊢
    cases hc : denL ids cs with
    | none => simp [hc] at e
    | some l =>
      rw [denL_mono h cs l hc]
      simpa [hc] using e
  | .sl i o n c, v, e => by
    simp only [den] at e ⊢
    cases hi : ids[i]? with
    | none => simp [hi] at e
    | some b =>
      have : ids'[i]? = some b := by
        obtain ⟨r, rfl⟩ := h
        rw [List.getElem?_append_left (by have := List.getElem?_eq_some_iff.1 hi; exact this.1)]; exact hi
      simp only [hi] at e
      simp only [this]; exact e
  | .iface t x, v, e => by
    simp only [den] at e ⊢
    cases hc : den ids x with
    | none => simp [hc] at e
    | some l =>
      rw [den_mono h x l hc]
      simpa [hc] using e
  | .fn f a b, v, e => by
    simp only [den] at e ⊢
    cases ha : denL ids a with
    | none => simp [ha] at e
    | some l =>
      cases hb : denL ids b with
      | none => simp [ha, hb] at e
      | some m =>
        rw [denL_mono h a l ha, denL_mono h b m hb]
        simpa [ha, hb] using e
  | .raw _, _, e => e
theorem denL_mono {ids ids' : List Nat} (h : ids <+: ids') : ∀ (xs : List SV) (l : List Value), denL ids xs = some l → denL ids' xs = some l
  | [], _, e => e
  | x :: xs, l, e => by
    simp only [denL] at e ⊢
    cases hx : den ids x with
    | none => simp [hx] at e
    | some v =>
      cases hl : denL ids xs with
      | none => simp [hx, hl] at e
      | some m =>
        rw [den_mono h x v hx, denL_mono h xs m hl]
        simpa [hx, hl] using e
end

theorem denL_cons {ids : List Nat} {x : SV} {xs : List SV} {l : List Value} (h : denL ids (x :: xs) = some l) : ∃ v m, den ids x = some v ∧ denL ids xs = some m ∧ l = v :: m := by
  simp only [denL] at h
  cases hx : den ids x with
  | none => simp [hx] at h
  | some v =>
    cases hl : denL ids xs with
    | none => simp [hx, hl] at h
    | some m => simp [hx, hl] at h; exact ⟨v, m, rfl, rfl, h.symm⟩
theorem denL_mk {ids : List Nat} {x : SV} {xs : List SV} {v : Value} {m : List Value} (hx : den ids x = some v) (hl : denL ids xs = some m) : denL ids (x :: xs) = some (v :: m) := by
  simp [denL, hx, hl]
theorem denL_len {ids : List Nat} : ∀ {xs : List SV} {l : List Value}, denL ids xs = some l → l.length = xs.length
  | [], l, h => by simp [denL] at h; simp [← h]
  | x :: xs, l, h => by
    obtain ⟨v, m, _, hm, rfl⟩ := denL_cons h
    simp [denL_len hm]
theorem denL_append {ids : List Nat} : ∀ {xs ys : List SV} {l m : List Value}, denL ids xs = some l → denL ids ys = some m → denL ids (xs ++ ys) = some (l ++ m)
  | [], ys, l, m, h, k => by simp [denL] at h; simp [← h, k]
  | x :: xs, ys, l, m, h, k => by
    obtain ⟨v, l', hx, hl, rfl⟩ := denL_cons h
    exact denL_mk hx (denL_append hl k)

/-! ### Lists -/
theorem nth_eq {α : Type} : ∀ (l : List α) (n : Nat), nth l n = l[n]?
  | [], n => by cases n <;> rfl
  | x :: l, 0 => rfl
  | x :: l, n + 1 => by simp [nth, nth_eq l n]
theorem denL_nth {ids : List Nat} : ∀ {xs : List SV} {l : List Value} {n : Nat} {x : SV}, denL ids xs = some l → nth xs n = some x → ∃ v, den ids x = some v ∧ l[n]? = some v
  | [], l, n, x, h, hn => by simp [nth] at hn
  | y :: xs, l, 0, x, h, hn => by
    obtain ⟨v, m, hx, _, rfl⟩ := denL_cons h
    simp [nth] at hn; subst hn
    exact ⟨v, hx, rfl⟩
  | y :: xs, l, n + 1, x, h, hn => by
    obtain ⟨v, m, _, hm, rfl⟩ := denL_cons h
    obtain ⟨u, hu, hl⟩ := denL_nth hm (show nth xs n = some x from hn)
    exact ⟨u, hu, by simpa using hl⟩
theorem denL_takeN {ids : List Nat} : ∀ {n : Nat} {xs ys : List SV} {l : List Value}, denL ids xs = some l → takeN xs n = some ys → denL ids ys = some (l.take n) ∧ n ≤ l.length
  | 0, xs, ys, l, h, hn => by cases xs <;> (simp [takeN] at hn; subst hn; simp [denL])
  | n + 1, [], ys, l, h, hn => by simp [takeN] at hn
  | n + 1, x :: xs, ys, l, h, hn => by
    obtain ⟨v, m, hx, hm, rfl⟩ := denL_cons h
    simp only [takeN] at hn
    cases ht : takeN xs n with
    | none => simp [ht] at hn
    | some r =>
      simp [ht] at hn; subst hn
      obtain ⟨h1, h2⟩ := denL_takeN hm ht
      exact ⟨by simpa using denL_mk hx h1, by simpa using h2⟩
theorem denL_dropN {ids : List Nat} : ∀ {n : Nat} {xs ys : List SV} {l : List Value}, denL ids xs = some l → dropN xs n = some ys → denL ids ys = some (l.drop n) ∧ n ≤ l.length
  | 0, xs, ys, l, h, hn => by cases xs <;> (simp [dropN] at hn; subst hn; simpa using h)
  | n + 1, [], ys, l, h, hn => by simp [dropN] at hn
  | n + 1, x :: xs, ys, l, h, hn => by
    obtain ⟨v, m, hx, hm, rfl⟩ := denL_cons h
    obtain ⟨h1, h2⟩ := denL_dropN hm (show dropN xs n = some ys from hn)
    exact ⟨by simpa using h1, by simpa using h2⟩
theorem denL_over {ids : List Nat} : ∀ {xs ys zs : List SV} {l m : List Value}, denL ids xs = some l → denL ids ys = some m → over xs ys = some zs → denL ids zs = some (m ++ l.drop m.length) ∧ m.length ≤ l.length
  | xs, [], zs, l, m, h, k, e => by
    simp [denL] at k; subst k
    have : zs = xs := by cases xs <;> simpa [over] using e.symm
    subst this
    exact ⟨by simpa using h, by simp⟩
  | [], y :: ys, zs, l, m, h, k, e => by simp [over] at e
  | x :: xs, y :: ys, zs, l, m, h, k, e => by
    obtain ⟨v, l', hx, hl, rfl⟩ := denL_cons h
    obtain ⟨u, m', hy, hm, rfl⟩ := denL_cons k
    simp only [over] at e
    cases ho : over xs ys with
    | none => simp [ho] at e
    | some r =>
      simp [ho] at e; subst e
      obtain ⟨h1, h2⟩ := denL_over hl hm ho
      exact ⟨by simpa using denL_mk hy h1, by simpa using h2⟩
theorem denL_overwrite {ids : List Nat} : ∀ {xs : List SV} {n : Nat} {ys zs : List SV} {l m : List Value}, denL ids xs = some l → denL ids ys = some m → overwrite xs n ys = some zs →
    denL ids zs = some (l.take n ++ m ++ l.drop (n + m.length)) ∧ n + m.length ≤ l.length
  | xs, 0, ys, zs, l, m, h, k, e => by
    have e' : over xs ys = some zs := by cases xs <;> exact e
    simpa using denL_over h k e'
  | [], n + 1, ys, zs, l, m, h, k, e => by simp [overwrite] at e
  | x :: xs, n + 1, ys, zs, l, m, h, k, e => by
    obtain ⟨v, l', hx, hl, rfl⟩ := denL_cons h
    simp only [overwrite] at e
    cases ho : overwrite xs n ys with
    | none => simp [ho] at e
    | some r =>
      simp [ho] at e; subst e
      obtain ⟨h1, h2⟩ := denL_overwrite hl k ho
      refine ⟨?_, by simp; omega⟩
      have := denL_mk hx h1
      simpa [Nat.add_right_comm] using this
theorem nth_setNth {α : Type} : ∀ (l : List α) (n m : Nat) (y : α), nth (setNth l n y) m = if n = m then (if n < l.length then some y else none) else nth l m
  | [], n, m, y => by cases n <;> cases m <;> simp [setNth, nth]
  | x :: l, 0, 0, y => by simp [setNth, nth]
  | x :: l, 0, m + 1, y => by simp [setNth, nth]
  | x :: l, n + 1, 0, y => by simp [setNth, nth]
  | x :: l, n + 1, m + 1, y => by simp [setNth, nth, nth_setNth l n m y]
theorem setNth_len {α : Type} : ∀ (l : List α) (n : Nat) (y : α), (setNth l n y).length = l.length
  | [], n, y => by cases n <;> rfl
  | x :: l, 0, y => rfl
  | x :: l, n + 1, y => by simp [setNth, setNth_len l n y]
theorem nth_lt {α : Type} {l : List α} {n : Nat} {x : α} (h : nth l n = some x) : n < l.length := by
  rw [nth_eq] at h; exact (List.getElem?_eq_some_iff.1 h).1
theorem nth_append {α : Type} (l : List α) (y : α) (n : Nat) : nth (l ++ [y]) n = if n = l.length then some y else nth l n := by
  rw [nth_eq, nth_eq]
  split
  · rename_i h; subst h; simp
  · rename_i h
    rcases Nat.lt_or_ge n l.length with hl | hl
    · rw [List.getElem?_append_left hl]
    · rw [List.getElem?_eq_none (by simp; omega), List.getElem?_eq_none (by omega)]

/-! ### Memory -/
theorem blkAt_eq {mem : Mem} {i : Nat} {b : SBlk} (h : blkAt mem i = some b) : nth mem i = some b ∧ resOf b = none := by
  unfold blkAt at h
  split at h
  · rename_i b' hb
    split at h
    · cases h
    · rename_i hr
      simp at h; subst h
      exact ⟨hb, hr⟩
  · cases h
theorem resOf_cells {ids : List Nat} {b : SBlk} {l : List Value} (h : denL ids b.cells = some l) : resOf b = none := by
  unfold resOf
  split
  · rename_i r xs e
    rw [e] at h
    simp [denL, den] at h
  · rfl
theorem wrB_eq {b : SBlk} (h : wrB b = true) : b.rw = true ∧ resOf b = none := by
  unfold wrB at h
  split at h
  · rename_i hr
    split at h
    · cases h
    · rename_i hn; exact ⟨hr, hn⟩
  · cases h

/-- The blocks of the i-th part. -/
def fpOf (ids : List Nat) (i : Nat) (b : SBlk) : List Nat := match resOf b with
  | some r => r.fp
  | none => match ids[i]? with | some n => [n] | none => []
/-- What is known of it. -/
def Good (w : World) (ids : List Nat) (i : Nat) (b : SBlk) : Prop := match resOf b with
  | some r => r.R w ∧ ∀ x ∈ r.fp, x < w.heap.size
  | none => ∃ n l, ids[i]? = some n ∧ denL ids b.cells = some l ∧ Blk w n l.toArray b.ty

structure Inv (c : Ctx) (w : World) (ids : List Nat) (mem : Mem) : Prop where
  frm : Frm c.S c.w0 w
  len : ids.length = mem.length
  good : ∀ i b, nth mem i = some b → Good w ids i b
  apart : ∀ i j bi bj, nth mem i = some bi → nth mem j = some bj → i ≠ j → ∀ x ∈ fpOf ids i bi, x ∉ fpOf ids j bj
  own : ∀ i b, nth mem i = some b → b.rw = true → ∀ x ∈ fpOf ids i b, x ∈ c.S ∨ c.w0.heap.size ≤ x

theorem Good.mk {w : World} {ids : List Nat} {i n : Nat} {b : SBlk} {l : List Value} (hn : ids[i]? = some n) (hd : denL ids b.cells = some l) (hb : Blk w n l.toArray b.ty) : Good w ids i b := by
  unfold Good; rw [resOf_cells hd]; exact ⟨n, l, hn, hd, hb⟩
theorem fpOf_cells {ids : List Nat} {i n : Nat} {b : SBlk} (hr : resOf b = none) (hn : ids[i]? = some n) : fpOf ids i b = [n] := by
  unfold fpOf; rw [hr, hn]
theorem fpOf_res {ids : List Nat} {i : Nat} {b : SBlk} {r : Res} (hr : resOf b = some r) : fpOf ids i b = r.fp := by
  unfold fpOf; rw [hr]
theorem Good.blk {w : World} {ids : List Nat} {i : Nat} {b : SBlk} (h : Good w ids i b) (hr : resOf b = none) : ∃ n l, ids[i]? = some n ∧ denL ids b.cells = some l ∧ Blk w n l.toArray b.ty := by
  unfold Good at h; rw [hr] at h; exact h
theorem Good.res {w : World} {ids : List Nat} {i : Nat} {b : SBlk} {r : Res} (h : Good w ids i b) (hr : resOf b = some r) : r.R w ∧ ∀ x ∈ r.fp, x < w.heap.size := by
  unfold Good at h; rw [hr] at h; exact h
theorem Good.lt {w : World} {ids : List Nat} {i : Nat} {b : SBlk} (h : Good w ids i b) : ∀ x ∈ fpOf ids i b, x < w.heap.size := by
  intro x hx
  cases hr : resOf b with
  | some r => rw [fpOf_res hr] at hx; exact (h.res hr).2 x hx
  | none =>
    obtain ⟨n, l, hn, hd, hb⟩ := h.blk hr
    rw [fpOf_cells hr hn] at hx
    simp at hx; subst hx
    exact hb.lt
theorem Good.keep {w w' : World} {ids : List Nat} {i : Nat} {b : SBlk} (h : Good w ids i b) (hk : ∀ x ∈ fpOf ids i b, w'.heap[x]? = w.heap[x]?) (hs : w.heap.size ≤ w'.heap.size) : Good w' ids i b := by
  cases hr : resOf b with
  | some r =>
    rw [fpOf_res hr] at hk
    have h1 := h.res hr
    unfold Good; rw [hr]
    exact ⟨r.stable _ _ hk h1.1, fun x hx => by have := h1.2 x hx; omega⟩
  | none =>
    obtain ⟨n, l, hn, hd, hb⟩ := h.blk hr
    rw [fpOf_cells hr hn] at hk
    exact .mk hn hd ((hk n (by simp)).trans hb)
theorem fpOf_ids {ids ids' : List Nat} (hp : ids <+: ids') {i : Nat} {b : SBlk} (hi : i < ids.length) : fpOf ids' i b = fpOf ids i b := by
  obtain ⟨r, rfl⟩ := hp
  unfold fpOf
  rw [List.getElem?_append_left hi]
theorem Good.ids {w : World} {ids ids' : List Nat} (hp : ids <+: ids') {i : Nat} {b : SBlk} (hi : i < ids.length) (h : Good w ids i b) : Good w ids' i b := by
  cases hr : resOf b with
  | some r =>
    have h1 := h.res hr
    unfold Good; rw [hr]
    exact h1
  | none =>
    obtain ⟨n, l, hn, hd, hb⟩ := h.blk hr
    refine .mk ?_ (denL_mono hp _ _ hd) hb
    obtain ⟨r, rfl⟩ := hp
    rw [List.getElem?_append_left hi]; exact hn
theorem Inv.blk {c : Ctx} {w : World} {ids : List Nat} {mem : Mem} (hI : Inv c w ids mem) (i : Nat) (b : SBlk) (h : nth mem i = some b) (hr : resOf b = none) : ∃ n l, ids[i]? = some n ∧ denL ids b.cells = some l ∧ Blk w n l.toArray b.ty := (hI.good i b h).blk hr
/-- Two named blocks are two. -/
theorem Inv.ne {c : Ctx} {w : World} {ids : List Nat} {mem : Mem} (hI : Inv c w ids mem) (i j : Nat) {bi bj : SBlk} {n m : Nat} (hij : Nat.beq i j = false) (hi : nth mem i = some bi) (hj : nth mem j = some bj) (ri : resOf bi = none) (rj : resOf bj = none) (hn : ids[i]? = some n) (hm : ids[j]? = some m) : n ≠ m := by
  have := hI.apart i j bi bj hi hj (fun e => by subst e; simp at hij) n (by rw [fpOf_cells ri hn]; simp)
  rw [fpOf_cells rj hm] at this
  simpa using this

theorem Inv.owned {c : Ctx} {w : World} {ids : List Nat} {mem : Mem} (hI : Inv c w ids mem) (i : Nat) (b : SBlk) (n : Nat) (hb : nth mem i = some b) (hn : ids[i]? = some n) (hrw : wrB b = true) : n ∈ c.S ∨ c.w0.heap.size ≤ n :=
  hI.own i b hb (wrB_eq hrw).1 n (by rw [fpOf_cells (wrB_eq hrw).2 hn]; simp)

/-- WHAT MEMORY IS BEHIND A STEP: T: what may have been written; each part is as it was, or is told anew. -/
theorem Inv.step {c : Ctx} {w w' : World} {ids : List Nat} {mem mem' : Mem} {T : List Nat} (hI : Inv c w ids mem) (hf : Frm T w w') (hT : ∀ x ∈ T, x ∈ c.S ∨ c.w0.heap.size ≤ x) (hlen : mem'.length = mem.length)
    (hch : ∀ i b', nth mem' i = some b' → ∃ b, nth mem i = some b ∧ b'.rw = b.rw ∧ (∀ x ∈ fpOf ids i b', x ∈ fpOf ids i b ∨ w.heap.size ≤ x) ∧ (b' = b ∧ (∀ x ∈ fpOf ids i b, x ∉ T) ∨ Good w' ids i b'))
    (hap : ∀ i j bi bj, nth mem' i = some bi → nth mem' j = some bj → i ≠ j → ∀ x ∈ fpOf ids i bi, w.heap.size ≤ x → x ∉ fpOf ids j bj) : Inv c w' ids mem' := by
  refine ⟨hI.frm.then hf hT, by rw [hI.len, hlen], ?_, ?_, ?_⟩
  · intro i b' hb'
    obtain ⟨b, hb, _, _, ⟨rfl, hn⟩ | hg⟩ := hch i b' hb'
    · exact (hI.good i b' hb).keep (fun x hx => hf.block x ((hI.good i b' hb).lt x hx) (hn x hx)) hf.size
    · exact hg
  · intro i j bi bj hi hj hij x hx hxj
    obtain ⟨ci, hci, _, h1, _⟩ := hch i bi hi
    obtain ⟨cj, hcj, _, h2, _⟩ := hch j bj hj
    rcases h1 x hx with h1 | h1
    · rcases h2 x hxj with h2 | h2
      · exact hI.apart i j ci cj hci hcj hij x h1 h2
      · exact hap j i bj bi hj hi (Ne.symm hij) x hxj h2 hx
    · exact hap i j bi bj hi hj hij x hx h1 hxj
  · intro i b' hb' hr x hx
    obtain ⟨b, hb, hrw, h1, _⟩ := hch i b' hb'
    rcases h1 x hx with h1 | h1
    · exact hI.own i b hb (hrw ▸ hr) x h1
    · exact .inr (Nat.le_trans hI.frm.size h1)
/-- New blocks get names. -/
theorem Inv.adds {c : Ctx} {w w' : World} {ids : List Nat} {mem : Mem} (hI : Inv c w ids mem) (hf : Frm [] w w') (ns : List Nat) (bs : List SBlk) (hlen : ns.length = bs.length) (hnd : ns.Nodup) (hnew : ∀ n ∈ ns, w.heap.size ≤ n)
    (hblk : ∀ i b n, nth bs i = some b → ns[i]? = some n → ∃ l, denL (ids ++ ns) b.cells = some l ∧ Blk w' n l.toArray b.ty) : Inv c w' (ids ++ ns) (mem ++ bs) := by
  have hp : ids <+: ids ++ ns := List.prefix_append _ _
  have hat : ∀ i b, nth (mem ++ bs) i = some b → (i < ids.length ∧ nth mem i = some b) ∨ (ids.length ≤ i ∧ ∃ n, nth bs (i - ids.length) = some b ∧ ns[i - ids.length]? = some n ∧ (ids ++ ns)[i]? = some n) := by
    intro i b h
    rw [nth_eq] at h
    rcases Nat.lt_or_ge i ids.length with hi | hi
    · rw [List.getElem?_append_left (by rw [← hI.len]; exact hi)] at h
      exact .inl ⟨hi, by rw [nth_eq]; exact h⟩
    · rw [List.getElem?_append_right (by rw [← hI.len]; exact hi), ← hI.len] at h
      have hl := (List.getElem?_eq_some_iff.1 h).1
      refine .inr ⟨hi, ns[i - ids.length]'(by omega), by rw [nth_eq]; exact h, List.getElem?_eq_getElem _, ?_⟩
      rw [List.getElem?_append_right hi]; exact List.getElem?_eq_getElem _
  have hfp : ∀ i b, nth (mem ++ bs) i = some b → (i < ids.length ∧ nth mem i = some b ∧ fpOf (ids ++ ns) i b = fpOf ids i b) ∨ (ids.length ≤ i ∧ ∃ n, n ∈ ns ∧ ns[i - ids.length]? = some n ∧ fpOf (ids ++ ns) i b = [n] ∧ Good w' (ids ++ ns) i b) := by
    intro i b h
    rcases hat i b h with ⟨hi, hb⟩ | ⟨hi, n, hb, hn, hn2⟩
    · exact .inl ⟨hi, hb, fpOf_ids hp hi⟩
    · obtain ⟨l, hd, hbl⟩ := hblk _ b n hb hn
      exact .inr ⟨hi, n, List.mem_of_getElem? hn, hn, fpOf_cells (resOf_cells hd) hn2, .mk hn2 hd hbl⟩
  refine ⟨hI.frm.then hf (by simp), by simp [hI.len, hlen], ?_, ?_, ?_⟩
  · intro i b h
    rcases hfp i b h with ⟨hi, hb, _⟩ | ⟨_, _, _, _, _, hg⟩
    · exact ((hI.good i b hb).keep (fun x hx => hf.block x ((hI.good i b hb).lt x hx) (by simp)) hf.size).ids hp hi
    · exact hg
  · intro i j bi bj h1 h2 hij x hx hxj
    rcases hfp i bi h1 with ⟨hi, hb, e1⟩ | ⟨hi, n, hn, hnn, e1, _⟩ <;> rcases hfp j bj h2 with ⟨hj, hb', e2⟩ | ⟨hj, m, hm, hmm, e2, _⟩ <;> rw [e1] at hx <;> rw [e2] at hxj
    · exact hI.apart i j bi bj hb hb' hij x hx hxj
    · simp at hxj; subst hxj
      have := (hI.good i bi hb).lt x hx
      have := hnew x hm; omega
    · simp at hx; subst hx
      have := (hI.good j bj hb').lt x hxj
      have := hnew x hn; omega
    · simp at hx hxj; subst hx; subst hxj
      obtain ⟨p1, p2⟩ := List.getElem?_eq_some_iff.1 hnn
      obtain ⟨q1, q2⟩ := List.getElem?_eq_some_iff.1 hmm
      have := (List.getElem_inj hnd).1 (p2.trans q2.symm)
      omega
  · intro i b h hr x hx
    rcases hfp i b h with ⟨hi, hb, e1⟩ | ⟨hi, n, hn, _, e1, _⟩ <;> rw [e1] at hx
    · exact hI.own i b hb hr x hx
    · simp at hx; subst hx
      exact .inr (Nat.le_trans hI.frm.size (hnew x hn))

structure FrOk (c : Ctx) (ids : List Nat) (fr : Fr) (a : Act) : Prop where
  size : a.tmps.size = c.N
  defers : a.defers = []
  at_ : ∀ t, has fr t = true → den ids (look fr t) = some (a.tmps.getD t undef)

theorem FrOk.mono {c : Ctx} {ids ids' : List Nat} {fr : Fr} {a : Act} (h : FrOk c ids fr a) (hp : ids <+: ids') : FrOk c ids' fr a :=
  ⟨h.size, h.defers, fun t ht => den_mono hp _ _ (h.at_ t ht)⟩

theorem FrOk.put {c : Ctx} {ids : List Nat} {fr : Fr} {a : Act} (h : FrOk c ids fr a) {d : Nat} (hd : d < c.N) {r : SV} {v : Value} (hv : den ids r = some v) : FrOk c ids ((d, r) :: fr) (a.put (some d) v) := by
  refine ⟨by simp [Act.put, h.size], h.defers, fun t ht => ?_⟩
  simp only [look, has] at *
  cases hb : Nat.beq d t with
  | true =>
    obtain rfl := Nat.eq_of_beq_eq_true hb
    have hs := h.size
    simp [Act.put, show d < a.tmps.size by omega, hv]
  | false =>
    have hne : d ≠ t := fun e => by subst e; simp at hb
    simp only [hb] at ht
    have := h.at_ t ht
    simp only [this]
    simp [Act.put, hne]

theorem FrOk.know {c : Ctx} {ids : List Nat} {fr : Fr} {a : Act} (h : FrOk c ids fr a) {d : Nat} {b b' : Bool} (hh : has fr d = true) (hl : look fr d = .bool b) (hb : b = b') : FrOk c ids ((d, .lit b') :: fr) a := by
  refine ⟨h.size, h.defers, fun t ht => ?_⟩
  simp only [look, has] at *
  cases hx : Nat.beq d t with
  | true =>
    obtain rfl := Nat.eq_of_beq_eq_true hx
    have := h.at_ d hh
    rw [hl] at this
    simp [den] at this ⊢
    rw [← hb]; exact this
  | false =>
    simp only [hx] at ht
    exact h.at_ t ht

theorem ofV_den (ids : List Nat) (v : Value) : den ids (ofV v) = some v := by
  unfold ofV
  split <;> rfl

theorem ev_ok {c : Ctx} {ids : List Nat} {fr : Fr} {a : Act} (hF : FrOk c ids fr a) {x : Operand} {r : SV} (h : ev fr x = some r) : den ids r = some (a.eval x) := by
  cases x with
  | tmp t =>
    simp only [ev] at h
    cases hh : has fr t with
    | true => simp [hh] at h; subst h; exact hF.at_ t hh
    | false => simp [hh] at h
  | const v => simp [ev] at h; subst h; exact ofV_den _ _
  | global g => simp [ev] at h; subst h; rfl
  | func f => simp [ev] at h; subst h; rfl

theorem evL_ok {c : Ctx} {ids : List Nat} {fr : Fr} {a : Act} (hF : FrOk c ids fr a) : ∀ {xs : List Operand} {rs : List SV}, evL fr xs = some rs → denL ids rs = some (xs.map a.eval)
  | [], rs, h => by simp [evL] at h; subst h; rfl
  | x :: xs, rs, h => by
    simp only [evL] at h
    cases hx : ev fr x with
    | none => simp [hx] at h
    | some v =>
      cases hl : evL fr xs with
      | none => simp [hx, hl] at h
      | some l =>
        simp [hx, hl] at h; subst h
        exact denL_mk (ev_ok hF hx) (evL_ok hF hl)

theorem Inv.drew {c : Ctx} {w : World} {ids : List Nat} {mem : Mem} (h : Inv c w ids mem) : Inv c { w with drawn := w.drawn + 1 } ids mem :=
  ⟨h.frm.drew, h.len, fun i b hb => (h.good i b hb).keep (fun _ _ => rfl) (Nat.le_refl _), h.apart, h.own⟩


/-! ### The pure operations -/
/-- What is owed of a pure operation's outcome. -/
def PureOk (c : Ctx) (ids : List Nat) (w : World) (a : Act) (o : Oper) : Ev → Prop
  | .ok r => ∃ v, den ids r = some v ∧ (execOp a.eval o).run c.P w = .ok (.value v) w
  | .must b r => b = true → ∃ v, den ids r = some v ∧ (execOp a.eval o).run c.P w = .ok (.value v) w
  | .pick b x y => ∃ vx vy, den ids x = some vx ∧ den ids y = some vy ∧ (execOp a.eval o).run c.P w = .ok (.value (if b then vx else vy)) w
  | .ld t ad => ∀ v, (loadVar t ad).run c.P w = .ok v w → (execOp a.eval o).run c.P w = .ok (.value v) w
  | .no => True

theorem PureOk.of_opt {c : Ctx} {ids : List Nat} {w : World} {a : Act} {o : Oper} {r : Option SV} (h : ∀ x, r = some x → ∃ v, den ids x = some v ∧ (execOp a.eval o).run c.P w = .ok (.value v) w) : PureOk c ids w a o (ofOpt r) := by
  cases r with
  | none => trivial
  | some x => exact h x rfl

theorem kEq_eq : ∀ {k k' : IntKind}, kEq k k' = true → k = k' := by intro k k'; cases k <;> cases k' <;> simp [kEq]

section
variable {c : Ctx} {ids : List Nat} {w : World} {a : Act} {fr : Fr} {mem : Mem}

/-- Value-level: what a binary operation's outcome owes. -/
def ValOk (c : Ctx) (ids : List Nat) (w : World) (s : Sem Value) : Ev → Prop
  | .ok r => ∃ v, den ids r = some v ∧ s.run c.P w = .ok v w
  | .must b r => b = true → ∃ v, den ids r = some v ∧ s.run c.P w = .ok v w
  | .pick b x y => ∃ vx vy, den ids x = some vx ∧ den ids y = some vy ∧ s.run c.P w = .ok (if b then vx else vy) w
  | .ld t ad => ∀ v, (loadVar t ad).run c.P w = .ok v w → s.run c.P w = .ok v w
  | .no => True

theorem ValOk.pure {s : Sem Value} {o : Oper} {e : Ev} (h : ValOk c ids w s e) (hs : execOp a.eval o = (do pure (.value (← s)))) : PureOk c ids w a o e := by
  cases e with
  | ok r => obtain ⟨v, hv, hr⟩ := h; exact ⟨v, hv, by rw [hs]; simp [hr]⟩
  | must b r => intro hb; obtain ⟨v, hv, hr⟩ := h hb; exact ⟨v, hv, by rw [hs]; simp [hr]⟩
  | pick b x y => obtain ⟨vx, vy, hx, hy, hr⟩ := h; exact ⟨vx, vy, hx, hy, by rw [hs]; simp [hr]⟩
  | ld t ad => intro v hv; have := h v hv; rw [hs]; simp [this]
  | no => trivial

theorem ValOk.of_opt {s : Sem Value} {r : Option SV} (h : ∀ x, r = some x → ∃ v, den ids x = some v ∧ s.run c.P w = .ok v w) : ValOk c ids w s (ofOpt r) := by
  cases r with
  | none => trivial
  | some x => exact h x rfl

theorem binInt_ok (op : BinOp) (t : TypeId) (x y : Operand) (k : IntKind) (p q : Int) : ValOk c ids w (do eqGuard op t x y (.int k p) (.int k q); binOp op t (.int k p) (.int k q)) (binInt op k p q) := by
  cases op <;> simp only [binInt] <;> try trivial
  case quo => intro h; simp at h; exact ⟨_, rfl, by simp [go_sem, Op.intDiv, h]⟩
  case rem => intro h; simp at h; exact ⟨_, rfl, by simp [go_sem, Op.intDiv, h]⟩
  case shl =>
    intro h; simp at h
    have h' : ¬ q < 0 := by omega
    exact ⟨_, rfl, by simp [go_sem, Op.shift, shlI, h']⟩
  case shr =>
    intro h; simp at h
    have h' : ¬ q < 0 := by omega
    exact ⟨_, rfl, by simp [go_sem, Op.shift, shrI, h']⟩
  case and => exact ⟨_, rfl, by simp [go_sem, Op.intBits, andI]⟩
  case or => exact ⟨_, rfl, by simp [go_sem, Op.intBits, orI]⟩
  all_goals exact ⟨_, rfl, by simp [go_sem, Op.intArith]⟩

theorem binStr_ok (op : BinOp) (t : TypeId) (x y : Operand) (p q : ByteArray) : ValOk c ids w (do eqGuard op t x y (.string p) (.string q); binOp op t (.string p) (.string q)) (binStr op p q) := by
  cases op <;> simp only [binStr] <;> try trivial
  all_goals exact ⟨_, rfl, by simp [go_sem, binOp, Op.stringOp]⟩
end

/-! ### The pure operations, on -/
section
variable {c : Ctx} {ids : List Nat} {w : World} {a : Act} {fr : Fr} {mem : Mem}

theorem isPtrB_of {P : Program} {t : TypeId} (h : isPtrB P t = true) : ∃ e, P.underlying t = some (.pointer e) := by
  unfold isPtrB at h
  split at h
  · exact ⟨_, by assumption⟩
  · cases h

/-- What is known of a pointer's value. -/
theorem nilness_den {x : SV} {b : Bool} (h : nilness x = some b) {v : Value} (hv : den ids x = some v) : (b = true ∧ v = .pointer none) ∨ (b = false ∧ ∃ ad, v = .pointer (some ad)) := by
  unfold nilness at h
  split at h
  · simp at h; subst h; simp [den] at hv; exact .inl ⟨rfl, hv.symm⟩
  · simp at h; subst h
    simp only [den] at hv
    split at hv
    · simp at hv; exact .inr ⟨rfl, _, hv.symm⟩
    · cases hv
  · simp at h; subst h; simp [den] at hv; exact .inr ⟨rfl, _, hv.symm⟩
  · simp at h; subst h; simp [den] at hv; exact .inl ⟨rfl, hv.symm⟩
  · cases h

theorem eqB_ok {op : BinOp} {t e : TypeId} {x y : Operand} {p q : Option Addr} {b : Bool} (ht : c.P.underlying t = some (.pointer e)) (hb : (p = none ∧ b = q.isNone) ∨ (q = none ∧ b = p.isNone)) :
    ValOk c ids w (do eqGuard op t x y (.pointer p) (.pointer q); binOp op t (.pointer p) (.pointer q)) (eqB op b) := by
  have heq : (Op.equal t (.pointer p) (.pointer q)).run c.P w = .ok b w := by
    show (Op.equalIn (9999 + 1) t (.pointer p) (.pointer q)).run c.P w = .ok b w
    generalize 9999 = d
    rcases hb with ⟨rfl, rfl⟩ | ⟨rfl, rfl⟩
    · simp [Op.equalIn, run_underlying ht]
    · cases p with
      | none => simp [Op.equalIn, run_underlying ht]
      | some p => simp [Op.equalIn, run_underlying ht]
  cases op <;> simp only [eqB] <;> try trivial
  case eql => exact ⟨_, rfl, by simp [go_sem, binOp, heq]⟩
  case neq => exact ⟨_, rfl, by simp [go_sem, binOp, heq]⟩

theorem boolOf_den {x : SV} {b : Bool} (h : boolOf x = some b) {v : Value} (hv : den ids x = some v) : v = .bool b := by
  unfold boolOf at h
  split at h
  · simp at h; subst h; simp [den] at hv; exact hv.symm
  · simp at h; subst h; simp [den] at hv; exact hv.symm
  · cases h

theorem boolEq_run {t : TypeId} (ht : boolTB c.P t = true) (a b : Bool) : (Op.equal t (.bool a) (.bool b)).run c.P w = .ok (a == b) w := by
  have hu : c.P.underlying t = some .bool := by
    unfold boolTB at ht
    split at ht
    · assumption
    · cases ht
  show (Op.equalIn (9999 + 1) t (.bool a) (.bool b)).run c.P w = .ok (a == b) w
  generalize 9999 = d
  simp [Op.equalIn, run_underlying hu]

theorem eqBool_ok {op : BinOp} {t : TypeId} {x y : Operand} (ht : boolTB c.P t = true) (a b : Bool) : ValOk c ids w (do eqGuard op t x y (.bool a) (.bool b); binOp op t (.bool a) (.bool b)) (eqBool op a b) := by
  have heq := boolEq_run (c := c) (w := w) ht a b
  cases op <;> simp only [eqBool] <;> try trivial
  case eql => exact ⟨_, rfl, by simp [go_sem, binOp, heq]⟩
  case neq => exact ⟨_, rfl, by simp [go_sem, binOp, heq]⟩
theorem eqLit_ok {op : BinOp} {t : TypeId} {x y : Operand} (ht : boolTB c.P t = true) (a b : Bool) : ValOk c ids w (do eqGuard op t x y (.bool a) (.bool b); binOp op t (.bool a) (.bool b)) (eqLit op a b) := by
  have heq := boolEq_run (c := c) (w := w) ht a b
  cases op <;> simp only [eqLit] <;> try trivial
  case eql => cases a <;> cases b <;> exact ⟨_, rfl, by simp [go_sem, binOp, heq]⟩
  case neq => cases a <;> cases b <;> exact ⟨_, rfl, by simp [go_sem, binOp, heq]⟩

theorem unEv_ok (op : UnOp) {p : SV} {vp : Value} (hp : den ids p = some vp) : ValOk c ids w (Op.unary op vp) (unEv op p) := by
  unfold unEv
  split
  · simp [den] at hp; subst hp
    split <;> exact ⟨_, rfl, by simp [Op.unary]⟩
  · simp [den] at hp; subst hp
    exact ⟨_, rfl, by simp [Op.unary]⟩
  · simp [den] at hp; subst hp
    exact ⟨_, rfl, by simp [Op.unary, Op.intArith]⟩
  · trivial

theorem aggB_run {t : TypeId} {b : Bool} (h : aggB c.P t = some b) : (isAgg t).run c.P w = .ok b w := by
  unfold aggB at h
  split at h <;> simp at h
  all_goals first
    | (subst h; rename_i hu; simp [isAgg, run_underlying hu])
    | skip

theorem sizeB_run {t : TypeId} {n : Nat} (h : sizeB c.P t = some n) : (sizeOf t).run c.P w = .ok n w := by
  unfold sizeB at h
  split at h
  · rename_i i hi
    simp [forceNat_eq] at h; subst h
    simp [sizeOf, typeInfo, hi]
  · cases h
end

section
variable {c : Ctx} {ids : List Nat} {w : World} {a : Act} {fr : Fr} {mem : Mem}

theorem denL_whole {ids : List Nat} {xs : List SV} {l : List Value} (h : denL ids xs = some l) : den ids (.agg xs) = some (.agg l.toArray) := by simp [den, h]

/-- A part of a row of cells, read. -/
theorem part_ok {t : TypeId} {cs : List SV} {l : List Value} (hl : denL ids cs = some l) {off : Nat} {r : SV} (h : partEv c.P t cs off = some r) :
    ∃ v, den ids r = some v ∧ (part t l.toArray off).run c.P w = .ok v w := by
  unfold partEv at h
  split at h
  · rename_i n ha hs
    split at h
    · rename_i r1 hd
      split at h
      · rename_i r2 htk
        simp at h; subst h
        obtain ⟨h1, h2⟩ := denL_dropN hl hd
        obtain ⟨h3, h4⟩ := denL_takeN h1 htk
        refine ⟨_, denL_whole h3, ?_⟩
        simp only [part, Sem.run_bind, aggB_run ha, Result.andThen_ok, if_true, sizeB_run hs, Sem.run_pure]
        congr 2
        apply Array.ext'
        simp [List.extract_eq_take_drop]
      · cases h
    · cases h
  · rename_i n ha hs
    obtain ⟨v, hv, hlv⟩ := denL_nth hl h
    refine ⟨v, hv, ?_⟩
    simp only [part, Sem.run_bind, aggB_run ha, Result.andThen_ok, Bool.false_eq_true, if_false]
    simp [hlv]
  · cases h

theorem eqLeaf_ok {t : TypeId} {x y : SV} {b : Bool} {vx vy : Value} {d : Nat} (h : eqLeaf c.P t x y = some b) (hx : den ids x = some vx) (hy : den ids y = some vy) : (Op.equalIn (d + 1) t vx vy).run c.P w = .ok b w := by
  unfold eqLeaf at h
  split at h
  · rename_i q ht
    split at h
    · split at h
      · rename_i hk
        obtain rfl := kEq_eq hk
        simp at h; subst h
        simp [den] at hx hy; subst hx hy
        exact run_equalIn_int w d t _ _ _ _ ht
      · cases h
    · cases h
  · rename_i ht
    split at h
    · rename_i a b' h1 h2
      simp at h; subst h
      obtain rfl := boolOf_den h1 hx
      obtain rfl := boolOf_den h2 hy
      exact run_equalIn_bool' w d t _ _ ht
    · cases h
  · rename_i ht
    split at h
    · simp at h; subst h
      simp [den] at hx hy; subst hx hy
      exact run_equalIn_string w d t _ _ ht
    · cases h
  · cases h
theorem eqFs_ok {xs ys : Array Value} {d : Nat} {g : Field → Option (Bool × Bool)} : ∀ {fs : List Field} {b p : Bool}, (∀ f ∈ fs, ∀ a q, g f = some (a, q) → q = true → ∃ va vb, (part f.type xs f.offset).run c.P w = .ok va w ∧ (part f.type ys f.offset).run c.P w = .ok vb w ∧ (Op.equalIn d f.type va vb).run c.P w = .ok a w) →
    eqFs g fs = some (b, p) → p = true → (Op.eqFields d xs ys fs).run c.P w = .ok b w
  | [], b, p, _, h, _ => by simp [eqFs] at h; obtain ⟨rfl, rfl⟩ := h; simp [Op.eqFields]
  | f :: fs, b, p, hg, h, hp => by
    simp only [eqFs] at h
    split at h
    · rename_i a q b' q' h1 h2
      simp at h
      obtain ⟨rfl, rfl⟩ := h
      simp only [Bool.and_eq_true, Bool.not_eq_true', beq_eq_false_iff_ne] at hp
      obtain ⟨⟨hn, hq⟩, hq'⟩ := hp
      obtain ⟨va, vb, e1, e2, e3⟩ := hg f (by simp) a q h1 hq
      have ih := eqFs_ok (fun f hf => hg f (by simp [hf])) h2 hq'
      simp only [Op.eqFields, if_pos hn, Sem.run_bind, e1, e2, e3, Result.andThen_ok]
      cases a
      · simp
      · simp [ih]
    · cases h
theorem eqV_ok : ∀ (n : Nat) {t : TypeId} {x y : SV} {b p : Bool} {vx vy : Value} {d : Nat}, eqV c.P n t x y = some (b, p) → p = true → den ids x = some vx → den ids y = some vy → n ≤ d → (Op.equalIn d t vx vy).run c.P w = .ok b w
  | 0, _, _, _, _, _, _, _, _, h, _, _, _, _ => by simp [eqV] at h
  | n + 1, t, x, y, b, p, vx, vy, d, h, hp, hx, hy, hd => by
    obtain ⟨d, rfl⟩ : ∃ k, d = k + 1 := ⟨d - 1, by omega⟩
    simp only [eqV] at h
    split at h
    · rename_i fs ht
      split at h
      · rename_i xs ys
        split at h
        · rename_i b' q hq
          simp at h
          obtain ⟨rfl, rfl⟩ := h
          simp only [Bool.and_eq_true, Bool.not_eq_true'] at hp
          simp only [den] at hx hy
          split at hx
          · rename_i lx hlx
            split at hy
            · rename_i ly hly
              simp at hx hy; subst hx hy
              have hfs : c.P.fieldsOf t = fs := by simp [Program.fieldsOf, ht]
              rw [run_equalIn_struct w d t _ _ (by rw [hfs]; exact ht) hp.1, hfs]
              refine eqFs_ok (fun f _ a q' hg hq' => ?_) hq hp.2
              split at hg
              · rename_i u v h1 h2
                obtain ⟨vu, hu1, hu2⟩ := part_ok (w := w) hlx h1
                obtain ⟨vv, hv1, hv2⟩ := part_ok (w := w) hly h2
                exact ⟨vu, vv, hu2, hv2, eqV_ok n hg hq' hu1 hv1 (by omega)⟩
              · cases hg
            · cases hy
          · cases hx
        · cases h
      · cases h
    · split at h
      · rename_i b' hb
        simp at h
        obtain ⟨rfl, _⟩ := h
        exact eqLeaf_ok hb hx hy
      · cases h
theorem eqAns_ok {op : BinOp} {t : TypeId} {x y : Operand} {xs ys : Array Value} {b p : Bool} (h : p = true → (Op.equalIn 10000 t (.agg xs) (.agg ys)).run c.P w = .ok b w) :
    ValOk c ids w (do eqGuard op t x y (.agg xs) (.agg ys); binOp op t (.agg xs) (.agg ys)) (eqAns op b (!(c.P.eqGuardType c.P.depth t) && p)) := by
  cases op <;> simp only [eqAns] <;> try trivial
  case eql =>
    intro hp
    simp only [Bool.and_eq_true, Bool.not_eq_true'] at hp
    exact ⟨_, rfl, by simp only [Sem.run_bind, run_eqGuard_agg w _ _ _ _ _ _ hp.1, Result.andThen_ok, run_eql_struct, h hp.2]⟩
  case neq =>
    intro hp
    simp only [Bool.and_eq_true, Bool.not_eq_true'] at hp
    exact ⟨_, rfl, by simp only [Sem.run_bind, run_eqGuard_agg w _ _ _ _ _ _ hp.1, Result.andThen_ok, run_neq_struct, h hp.2]⟩

theorem den_agg {cs : List SV} {v : Value} (h : den ids (.agg cs) = some v) : ∃ l, denL ids cs = some l ∧ v = .agg l.toArray := by
  simp only [den] at h
  split at h
  · rename_i l hl
    simp at h
    exact ⟨l, hl, h.symm⟩
  · cases h

theorem binEv_ok (op : BinOp) (t : TypeId) (x y : Operand) {p q : SV} {vp vq : Value} (hp : den ids p = some vp) (hq : den ids q = some vq) :
    ValOk c ids w (do eqGuard op t x y vp vq; binOp op t vp vq) (binEv c op t p q) := by
  unfold binEv
  split
  · split
    · rename_i h
      obtain rfl := kEq_eq h
      simp [den] at hp hq; subst hp hq
      exact binInt_ok ..
    · trivial
  · simp [den] at hp hq; subst hp hq
    exact binStr_ok ..
  · split
    · rename_i b h1 h2
      obtain ⟨e, ht⟩ := isPtrB_of h1
      simp [den] at hp; subst hp
      rcases nilness_den h2 hq with ⟨rfl, rfl⟩ | ⟨rfl, ad, rfl⟩
      · exact eqB_ok ht (.inl ⟨rfl, rfl⟩)
      · exact eqB_ok ht (.inl ⟨rfl, rfl⟩)
    · trivial
  · split
    · rename_i b h1 h2
      obtain ⟨e, ht⟩ := isPtrB_of h1
      simp [den] at hq; subst hq
      rcases nilness_den h2 hp with ⟨rfl, rfl⟩ | ⟨rfl, ad, rfl⟩
      · exact eqB_ok ht (.inr ⟨rfl, rfl⟩)
      · exact eqB_ok ht (.inr ⟨rfl, rfl⟩)
    · trivial
  · split
    · rename_i xs ys b p h
      obtain ⟨lx, hlx, rfl⟩ := den_agg hp
      obtain ⟨ly, hly, rfl⟩ := den_agg hq
      exact eqAns_ok fun hpp => eqV_ok 8 h hpp hp hq (by omega)
    · trivial
  · split
    · rename_i h
      simp [den] at hp hq; subst hp hq
      exact eqLit_ok h _ _
    · trivial
  · split
    · rename_i h1 h2 h3
      obtain rfl := boolOf_den h2 hp
      obtain rfl := boolOf_den h3 hq
      exact eqBool_ok h1 _ _
    · trivial

theorem loadVar_blk {t : TypeId} {n : Nat} {l : List Value} {ty : TypeId} (hb : Blk w n l.toArray ty) {cs : List SV} (hl : denL ids cs = some l) {off : Nat} {r : SV} (h : partEv c.P t cs off = some r) :
    ∃ v, den ids r = some v ∧ (loadVar t ⟨n, off, none⟩).run c.P w = .ok v w := by
  unfold partEv at h
  split at h
  · rename_i k ha hs
    split at h
    · rename_i r1 hd
      split at h
      · rename_i r2 htk
        simp at h; subst h
        obtain ⟨h1, h2⟩ := denL_dropN hl hd
        obtain ⟨h3, h4⟩ := denL_takeN h1 htk
        refine ⟨_, denL_whole h3, ?_⟩
        have hcells : ∀ j v, ((l.drop off).take k)[j]? = some v → w.cell? ((⟨n, off, none⟩ : Addr).add j) = some v := by
          intro j v hj
          have hjk : j < k := by have := (List.getElem?_eq_some_iff.1 hj).1; simp at this; omega
          rw [List.getElem?_take_of_lt hjk, List.getElem?_drop] at hj
          have hadd : (⟨n, off, none⟩ : Addr).add j = ⟨n, off + j, none⟩ := by unfold Addr.add; split <;> simp_all
          rw [hadd, hb.cell]; simpa using hj
        have := run_loadCells_list (P := c.P) (w := w) ⟨n, off, none⟩ ((l.drop off).take k) hcells
        have hlen : ((l.drop off).take k).length = k := by simp at h4 ⊢; omega
        rw [hlen] at this
        simp only [loadVar, Sem.run_bind, aggB_run ha, Result.andThen_ok, if_true, sizeB_run hs, this, Sem.run_pure]
      · cases h
    · cases h
  · rename_i k ha hs
    obtain ⟨v, hv, hlv⟩ := denL_nth hl h
    refine ⟨v, hv, ?_⟩
    simp only [loadVar, Sem.run_bind, aggB_run ha, Result.andThen_ok, Bool.false_eq_true, if_false]
    have : w.cell? ⟨n, off, none⟩ = some v := by rw [hb.cell]; simpa using hlv
    simp [this]
  · cases h

theorem ptr_den {i o : Nat} {v : Value} (h : den ids (.ptr i o) = some v) : ∃ n, ids[i]? = some n ∧ v = .pointer (some ⟨n, o, none⟩) := by
  simp only [den] at h
  split at h
  · simp at h; exact ⟨_, by assumption, h.symm⟩
  · cases h

theorem loadEv_ok (hI : Inv c w ids mem) {t : TypeId} {p : SV} {vp : Value} (hp : den ids p = some vp) : ValOk c ids w (Instr.loadAt t vp) (loadEv c mem t p) := by
  unfold loadEv
  split
  · obtain ⟨n, hn, rfl⟩ := ptr_den hp
    split
    · rename_i b hb
      refine ValOk.of_opt fun r hr => ?_
      obtain ⟨n', l, hn', hl, hblk⟩ := hI.blk _ _ (blkAt_eq hb).1 (blkAt_eq hb).2
      rw [hn] at hn'; simp at hn'; subst hn'
      obtain ⟨v, hv, hrun⟩ := loadVar_blk (c := c) hblk hl hr
      exact ⟨v, hv, by simp [Instr.loadAt, Instr.sureAddr, hrun]⟩
    · trivial
  · simp [den] at hp; subst hp
    intro v hv
    simp [Instr.loadAt, Instr.sureAddr, hv]
  · trivial

theorem fieldOf_run {s : TypeId} {f : Nat} {fl : Field} (h : fieldOf c.P s f = some fl) : ∃ fs, c.P.underlying s = some (.struct fs) ∧ fs[f]? = some fl := by
  unfold fieldOf at h
  split at h
  · exact ⟨_, by assumption, h⟩
  · cases h

theorem fieldAddrEv_ok {s : TypeId} {f : Nat} {p : SV} {vp : Value} (hp : den ids p = some vp) : ValOk c ids w (Instr.fieldAt s vp f) (fieldAddrEv c s p f) := by
  unfold fieldAddrEv
  split
  · rename_i fl hf
    obtain ⟨fs, hu, hg⟩ := fieldOf_run hf
    split
    · rename_i k hs
      split
      · rename_i i o
        obtain ⟨n, hn, rfl⟩ := ptr_den hp
        refine ⟨.pointer (some ⟨n, o + fl.offset, none⟩), by simp [den, hn], ?_⟩
        have hadd : (⟨n, o, none⟩ : Addr).add fl.offset = ⟨n, o + fl.offset, none⟩ := by unfold Addr.add; split <;> simp_all
        simp [Instr.fieldAt, run_underlying hu, hg, Instr.sureAddr, fieldPlace, sizeB_run hs, hadd]
      · simp [den] at hp; subst hp
        refine ⟨_, rfl, ?_⟩
        simp [Instr.fieldAt, run_underlying hu, hg, Instr.sureAddr, fieldPlace, sizeB_run hs]
      · trivial
    · trivial
  · trivial

theorem fieldEv_ok {s : TypeId} {f : Nat} {p : SV} {vp : Value} (hp : den ids p = some vp) : ValOk c ids w (Instr.field s vp f) (fieldEv c s p f) := by
  unfold fieldEv
  split
  · rename_i fl cs hf
    obtain ⟨fs, hu, hg⟩ := fieldOf_run hf
    simp only [den] at hp
    split at hp
    · rename_i l hl
      simp at hp; subst hp
      refine ValOk.of_opt fun r hr => ?_
      obtain ⟨v, hv, hrun⟩ := part_ok (c := c) (w := w) hl hr
      exact ⟨v, hv, by simp [Instr.field, run_underlying hu, hg, asAgg, hrun]⟩
    · cases hp
  · trivial

theorem indexEv_ok {t : TypeId} {p q : SV} {vp vq : Value} (hp : den ids p = some vp) (hq : den ids q = some vq) : ValOk c ids w (Instr.index t vp vq) (indexEv c t p q) := by
  unfold indexEv
  split
  · rename_i k n
    simp [den] at hq; subst hq
    split
    · rename_i cs
      simp only [den] at hp
      split at hp
      · rename_i l hl
        simp at hp; subst hp
        split
        · rename_i len e ha
          have hu : c.P.underlying t = some (.array len e) := by
            unfold arrLen at ha
            split at ha
            · simp at ha; obtain ⟨rfl, rfl⟩ := ha; assumption
            · cases ha
          split
          · rename_i s hs
            split
            · rename_i r hr
              intro hb
              simp at hb
              obtain ⟨v, hv, hrun⟩ := part_ok (c := c) (w := w) hl hr
              exact ⟨v, hv, by simp [Instr.index, asIntOf, run_underlying hu, hb, sizeB_run hs, hrun]⟩
            · trivial
          · trivial
        · trivial
      · cases hp
    · rename_i cs
      simp [den] at hp; subst hp
      split
      · rename_i len e ha
        have hu : c.P.underlying t = some (.array len e) := by
          unfold arrLen at ha
          split at ha
          · simp at ha; obtain ⟨rfl, rfl⟩ := ha; assumption
          · cases ha
        split
        · rename_i s hg hs
          intro hb
          rw [Bool.and_eq_true, decide_eq_true_eq, decide_eq_true_eq] at hb
          obtain ⟨hb, hsz⟩ := hb
          refine ⟨cs.getD (n.toNat * s) Go.undef, rfl, ?_⟩
          have hget : cs[n.toNat * s]? = some (cs.getD (n.toNat * s) Go.undef) := by
            rw [Array.getElem?_eq_getElem hsz, Array.getD_eq_getD_getElem?, Array.getElem?_eq_getElem hsz]; rfl
          have hrun : (part e cs (n.toNat * s)).run c.P w = .ok (cs.getD (n.toNat * s) Go.undef) w := by
            simp only [part, Sem.run_bind, aggB_run hg, Result.andThen_ok, Bool.false_eq_true, if_false]
            simp only [hget, Sem.run_pure]
          generalize cs.getD (n.toNat * s) Go.undef = vv at hrun ⊢
          simp [Instr.index, asIntOf, run_underlying hu, hb, sizeB_run hs, hrun]
        · trivial
      · trivial
    · trivial
  · trivial

theorem indexAddrEv_ok {t : TypeId} {p q : SV} {vp vq : Value} (hp : den ids p = some vp) (hq : den ids q = some vq) : ValOk c ids w (Instr.indexAt t vp vq) (indexAddrEv c t p q) := by
  unfold indexAddrEv
  split
  · rename_i k n
    simp [den] at hq; subst hq
    split
    · rename_i i o
      obtain ⟨g, hg, rfl⟩ := ptr_den hp
      split
      · rename_i len e ha
        have hu : c.P.underlying t = some (.array len e) := by
          unfold arrLen at ha
          split at ha
          · simp at ha; obtain ⟨rfl, rfl⟩ := ha; assumption
          · cases ha
        split
        · rename_i s hs
          intro hb
          simp at hb
          refine ⟨.pointer (some ⟨g, o + n.toNat * s, none⟩), by simp [den, hg], ?_⟩
          have hadd : (⟨g, o, none⟩ : Addr).add (n.toNat * s) = ⟨g, o + n.toNat * s, none⟩ := by unfold Addr.add; split <;> simp_all
          simp [Instr.indexAt, asIntOf, run_underlying hu, Instr.sureAddr, hb, sizeB_run hs, hadd]
        · trivial
      · trivial
    · rename_i i o len cap
      simp only [den] at hp
      split at hp
      · rename_i g hg
        simp at hp; subst hp
        split
        · rename_i e ha
          have hu : c.P.underlying t = some (.slice e) := by
            unfold sliceElem at ha
            split at ha
            · simp at ha; subst ha; assumption
            · cases ha
          split
          · rename_i s hs
            intro hb
            simp at hb
            refine ⟨.pointer (some ⟨g, o + n.toNat * s, none⟩), by simp [den, hg], ?_⟩
            have hadd : (⟨g, o, none⟩ : Addr).add (n.toNat * s) = ⟨g, o + n.toNat * s, none⟩ := by unfold Addr.add; split <;> simp_all
            simp [Instr.indexAt, asIntOf, run_underlying hu, hb, sizeB_run hs, hadd]
          · trivial
        · trivial
      · cases hp
    · rename_i ad len cap
      simp [den] at hp; subst hp
      split
      · rename_i e ha
        have hu : c.P.underlying t = some (.slice e) := by
          unfold sliceElem at ha
          split at ha
          · simp at ha; subst ha; assumption
          · cases ha
        split
        · rename_i s hs
          intro hb
          simp at hb
          refine ⟨_, rfl, ?_⟩
          simp [Instr.indexAt, asIntOf, run_underlying hu, hb, sizeB_run hs]
        · trivial
      · trivial
    · rename_i ad
      simp [den] at hp; subst hp
      split
      · rename_i len e ha
        have hu : c.P.underlying t = some (.array len e) := by
          unfold arrLen at ha
          split at ha
          · simp at ha; obtain ⟨rfl, rfl⟩ := ha; assumption
          · cases ha
        split
        · rename_i s hs
          intro hb
          simp at hb
          refine ⟨_, rfl, ?_⟩
          simp [Instr.indexAt, asIntOf, run_underlying hu, Instr.sureAddr, hb, sizeB_run hs]
        · trivial
      · trivial
    · trivial
  · trivial
end

section
variable {c : Ctx} {ids : List Nat} {w : World} {a : Act} {fr : Fr} {mem : Mem}

theorem oneSV_den {x : SV} {v : Value} (h1 : oneSV x = true) (h : den ids x = some v) : v.oneCell' = true := by
  cases x <;> simp only [den] at h <;> simp only [oneSV] at h1 <;> try (cases h1; done)
  all_goals first
    | (simp at h; subst h; first | rfl | exact h1)
    | skip
  all_goals first
    | (split at h <;> simp at h; subst h; rfl)
    | skip

theorem oneCell_cells {v : Value} (h : v.oneCell' = true) : v.cells = #[v] := by
  cases v <;> first | rfl | cases h

theorem allOne_den : ∀ {xs : List SV} {l : List Value}, allOne xs = true → denL ids xs = some l → ∀ v ∈ l, v.oneCell' = true
  | [], l, _, h => by simp [denL] at h; subst h; simp
  | x :: xs, l, h1, h => by
    obtain ⟨v, m, hx, hm, rfl⟩ := denL_cons h
    simp only [allOne] at h1
    cases ho : oneSV x with
    | false => simp [ho] at h1
    | true =>
      simp [ho] at h1
      intro u hu
      cases hu with
      | head => exact oneSV_den ho hx
      | tail _ hu => exact allOne_den h1 hm u hu

theorem allOne_one {x : SV} (h : allOne [x] = true) : oneSV x = true := by
  simp only [allOne] at h
  cases ho : oneSV x <;> simp [ho] at h ⊢

theorem cells1_den {x : SV} {v : Value} {xs : List SV} (h1 : cells1 x = some xs) (h : den ids x = some v) : denL ids xs = some v.cells.toList ∧ ∀ u ∈ v.cells.toList, u.oneCell' = true := by
  unfold cells1 at h1
  split at h1
  · rename_i ha
    simp at h1; subst h1
    have hd : denL ids (svCells x) = some v.cells.toList := by
      by_cases hx : ∃ cs, x = .agg cs
      · obtain ⟨cs, rfl⟩ := hx
        simp only [den] at h
        split at h
        · simp at h; subst h; simpa [Value.cells, svCells]
        · cases h
      · have hs : svCells x = [x] := by cases x <;> first | rfl | exact absurd ⟨_, rfl⟩ hx
        rw [hs] at ha ⊢
        rw [oneCell_cells (oneSV_den (allOne_one ha) h)]
        simp [denL, h]
    exact ⟨hd, allOne_den ha hd⟩
  · cases h1

theorem foldl_set (off : Nat) : ∀ (vs : List Value) (k : Nat) (cells : Array Value), off + k + vs.length ≤ cells.size →
    (vs.zipIdx k).foldl (fun (cs : Array Value) (x : Value × Nat) => cs.setIfInBounds (off + x.2) x.1) cells = (cells.toList.take (off + k) ++ vs ++ cells.toList.drop (off + k + vs.length)).toArray
  | [], k, cells, _ => by simp
  | v :: vs, k, cells, h => by
    simp only [List.zipIdx_cons, List.foldl_cons]
    rw [foldl_set off vs (k + 1) _ (by simp at h ⊢; omega)]
    apply Array.ext'
    simp only [Array.toList_setIfInBounds]
    have hk : off + k < cells.toList.length := by simp at h ⊢; omega
    have e1 : (cells.toList.set (off + k) v).take (off + (k + 1)) = cells.toList.take (off + k) ++ [v] := by
      rw [show off + (k + 1) = (off + k) + 1 by omega, List.take_succ_eq_append_getElem (by simpa using hk)]
      simp [List.take_set_of_le]
    have e2 : (cells.toList.set (off + k) v).drop (off + (k + 1) + vs.length) = cells.toList.drop (off + k + (v :: vs).length) := by
      rw [List.drop_set_of_lt (by omega)]
      congr 1; simp; omega
    rw [e1, e2]; simp

theorem fill_ok {place : Nat → Option (Nat × Nat)} : ∀ {parts : List (Nat × SV)} {vparts : List (Nat × Value)} {cells r : List SV} {l : List Value},
    (parts.map (·.1) = vparts.map (·.1)) → denL ids (parts.map (·.2)) = some (vparts.map (·.2)) → denL ids cells = some l → fillEv place cells parts = some r →
    ∃ m, denL ids r = some m ∧ Instr.fill place l.toArray vparts = some m.toArray
  | [], vparts, cells, r, l, h1, h2, h3, h => by
    cases vparts with
    | nil => simp [fillEv] at h; subst h; exact ⟨l, h3, rfl⟩
    | cons => simp at h1
  | (i, x) :: rest, [], cells, r, l, h1, h2, h3, h => by simp at h1
  | (i, x) :: rest, (i', v) :: vrest, cells, r, l, h1, h2, h3, h => by
    simp at h1
    obtain ⟨rfl, h1⟩ := h1
    simp only [List.map_cons] at h2
    obtain ⟨v', m', hx, hm, e⟩ := denL_cons h2
    simp at e
    obtain ⟨rfl, rfl⟩ := e
    simp only [fillEv] at h
    split at h
    · rename_i off size xs hp hc
      split at h
      · rename_i hlen
        split at h
        · rename_i r1 ho
          obtain ⟨hd, _⟩ := cells1_den hc hx
          obtain ⟨ho1, ho2⟩ := denL_overwrite h3 hd ho
          have hsz : v.cells.size = size := by
            have := denL_len hd
            have := Nat.eq_of_beq_eq_true hlen
            simp at *; omega
          obtain ⟨m, hm1, hm2⟩ := fill_ok (vparts := vrest) h1 (by simpa using hm) ho1 h
          refine ⟨m, hm1, ?_⟩
          have hfold := foldl_set off v.cells.toList 0 l.toArray (by simpa using ho2)
          have e3 : Array.foldl (fun (cs : Array Value) (x : Value × Nat) => cs.setIfInBounds (off + x.2) x.1) l.toArray v.cells.zipIdx = (l.take off ++ v.cells.toList ++ l.drop (off + v.cells.toList.length)).toArray := by
            rw [← Array.foldl_toList]
            simpa using hfold
          simp only [Instr.fill, hp]
          rw [if_neg (by simp [hsz] at ho2 ⊢; omega)]
          rw [← hm2]
          congr 1
        · cases h
      · cases h
    · cases h

theorem placesL_ok : ∀ {fs : List Field} {l : List (Nat × Nat)}, placesL c.P fs = some l → fs.mapM (fun f => (c.P.info? f.type).map fun i => (f.offset, i.size)) = some l
  | [], l, h => by simp [placesL] at h; subst h; rfl
  | f :: fs, l, h => by
    simp only [placesL] at h
    split at h
    · rename_i s hs
      split at h
      · rename_i r hr
        simp at h; subst h
        have := placesL_ok hr
        unfold sizeB at hs
        split at hs
        · rename_i i hi
          simp [forceNat_eq] at hs; subst hs
          simp [List.mapM_cons, hi, this]
        · cases hs
      · cases h
    · cases h

theorem ofV_map (ids : List Nat) : ∀ (l : List Value), denL ids (l.map ofV) = some l
  | [] => rfl
  | v :: l => denL_mk (ofV_den ids v) (ofV_map ids l)

theorem zeroSV_ok {t : TypeId} {z : SV} (h : zeroSV c.P t = some z) : ∃ i v, c.P.info? t = some i ∧ i.zero = some v ∧ den ids z = some v := by
  unfold zeroSV at h
  split at h
  · rename_i i hi
    split at h
    · rename_i cs hz
      simp at h; subst h
      exact ⟨i, _, hi, hz, by rw [denL_whole (ofV_map ids _)]⟩
    · cases h
    · rename_i v _ _ hz
      simp at h; subst h
      exact ⟨i, _, hi, hz, ofV_den _ _⟩
    · cases h
  · cases h

theorem build_ok {t : TypeId} {parts : List (Nat × SV)} {vparts : List (Nat × Value)} (h1 : parts.map (·.1) = vparts.map (·.1)) (h2 : denL ids (parts.map (·.2)) = some (vparts.map (·.2))) {r : SV} (h : buildEv c t parts = some r) :
    ∃ v, den ids r = some v ∧ (Instr.build t vparts.toArray).run c.P w = .ok v w := by
  unfold buildEv at h
  split at h
  · rename_i z hz
    obtain ⟨it, zv, hit, hzero, hdz⟩ := zeroSV_ok (ids := ids) hz
    split at h
    · rename_i fs zs hu hc
      obtain ⟨hzs, _⟩ := cells1_den hc hdz
      split at h
      · rename_i l hl
        split at h
        · rename_i r1 hf
          simp at h; subst h
          obtain ⟨m, hm1, hm2⟩ := fill_ok h1 h2 hzs hf
          refine ⟨_, denL_whole hm1, run_build w t _ _ ?_⟩
          have hp := placesL_ok hl
          have hpl : (fun i => l.toArray[i]?) = nth l := by funext i; simp [nth_eq]
          unfold Program.built
          rw [hit, hu]
          simp only [hzero]
          rw [hp]
          simp only
          rw [hpl]
          simpa using hm2
        · cases h
      · cases h
    · rename_i n e zs hu hc
      obtain ⟨hzs, _⟩ := cells1_den hc hdz
      split at h
      · rename_i s hs
        split at h
        · rename_i r1 hf
          simp at h; subst h
          obtain ⟨m, hm1, hm2⟩ := fill_ok h1 h2 hzs hf
          refine ⟨_, denL_whole hm1, run_build w t _ _ ?_⟩
          unfold sizeB at hs
          split at hs
          · rename_i ie hie
            simp [forceNat_eq] at hs; subst hs
            unfold Program.built
            rw [hit, hu]
            simp only [hzero, hie]
            simpa using hm2
          · cases hs
        · cases h
      · cases h
    · cases h
  · cases h
end

end Go.Proofs.YtglafgpjgkphkaaGreatDoor
