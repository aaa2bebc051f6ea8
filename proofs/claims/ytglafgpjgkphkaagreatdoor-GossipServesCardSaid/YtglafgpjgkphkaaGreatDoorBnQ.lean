/- A store into a row. A call on parts that lie opened. -/
import Derived.Test.YtglafgpjgkphkaaGreatDoorBnY
namespace Go.Proofs.YtglafgpjgkphkaaGreatDoor
section
set_option linter.unusedVariables false
set_option linter.unusedSimpArgs false
open Go.RowKit

theorem take_mid {α : Type} {cur v : List α} {m off k : Nat} (hv : v.length = k) (h : off + k ≤ m) (hm : m ≤ cur.length) : (cur.take off ++ v ++ cur.drop (off + k)).take m = (cur.take m).take off ++ v ++ (cur.take m).drop (off + k) := by
  apply List.ext_getElem?
  intro q
  simp only [List.getElem?_take, List.getElem?_append, List.length_append, List.length_take, List.getElem?_drop, hv]
  rw [Nat.min_eq_left (by omega : off ≤ cur.length), Nat.min_eq_left hm, Nat.min_eq_left (by omega : off ≤ m)]
  by_cases h1 : q < m
  · rw [if_pos h1]
    by_cases h2 : q < off + k
    · rw [if_pos h2, if_pos h2]
      by_cases h3 : q < off
      · rw [if_pos h3, if_pos h3, if_pos h3, if_pos h3, if_pos h1]
      · rw [if_neg h3, if_neg h3]
    · rw [if_neg h2, if_neg h2, if_pos (by omega)]
  · rw [if_neg h1, if_neg (by omega), if_neg (by omega)]
theorem row_store {P : Program} {w : World} {t e : TypeId} {size n cap g off k : Nat} {xs : List Value} {v : Value} (h : (rowRes e size (some ⟨g, 0, none⟩) n cap xs).R w) (hs : sizeB P t = some k) (hsz : v.cells.size = k) (h1 : v.cells.toList.all (·.oneCell') = true) (hle : off + k ≤ xs.length) :
    ∃ w', (Instr.storeAt t (.pointer (some ⟨g, off, none⟩)) v).run P w = .ok () w' ∧ Frm [g] w w' ∧ (rowRes e size (some ⟨g, 0, none⟩) n cap (xs.take off ++ v.cells.toList ++ xs.drop (off + k))).R w' := by
  have h' : w.ownsRow 0 e size (.slice (some ⟨g, 0, none⟩) n cap) n xs := h
  obtain ⟨hlen, hh⟩ := h'
  rcases hh with ⟨h2, _⟩ | ⟨g', cap', cur, h2, hb, hg, hnc, hcm, hcs, htake⟩
  · simp at h2
  · simp only [Value.slice.injEq, Option.some.injEq, Addr.mk.injEq, and_true, true_and] at h2
    obtain ⟨rfl, rfl⟩ := h2
    have hxc : xs.length ≤ cur.toList.length := by rw [← htake, List.length_take]; omega
    have hns : n * size = xs.length := hlen.symm
    have hblk : Blk w g cur.toList.toArray e := by simpa [Blk] using hg
    obtain ⟨w', hrun, hf, hb'⟩ := run_storeAt_raw (P := P) (o := off) hblk hs hsz h1 (by omega)
    have hvl : v.cells.toList.length = k := by simpa using hsz
    refine ⟨w', hrun, hf, ?_⟩
    show w'.ownsRow 0 e size (.slice (some ⟨g, 0, none⟩) n cap) n _
    refine ⟨by simp only [List.length_append, List.length_take, List.length_drop, hvl]; omega, .inr ⟨g, cap, _, rfl, hb, hb', hnc, hcm, ?_, ?_⟩⟩
    · simp only [List.size_toArray, List.length_append, List.length_take, List.length_drop, hvl]
      have : cur.toList.length = cur.size := by simp
      omega
    · simp only
      have := take_mid hvl (m := n * size) (off := off) (by omega) (cur := cur.toList) (by omega)
      rw [htake] at this
      exact this

section
variable {c : Ctx} {Q : SExit → Fr → Mem → List Nat → World → Prop} {ids : List Nat} {w : World} {fr : Fr} {mem : Mem} {todo : List Task}
theorem n_storeRow {o : Oper} {t ty e : TypeId} {xa xv : Operand} {size n cap g off k : Nat} {a : Addr} {xs : List Value} {rv : SV} {v : Value} (i : Nat) (xs' : List Value)
    (ho : o.op = .store t xa xv) (hd : dstOk c o.dst = true) (hx : ev fr xa = some (.raw (.pointer (some a)))) (ha : a = ⟨g, off, none⟩) (hv : ev fr xv = some rv) (hrv : den ids rv = some v) (hs : sizeB c.P t = some k) (hsz : v.cells.size = k) (h1 : v.cells.toList.all (·.oneCell') = true)
    (hb : nth mem i = some ⟨ty, [.res (rowRes e size (some ⟨g, 0, none⟩) n cap xs)], true⟩) (hle : off + k ≤ xs.length) (hl' : xs.take off ++ v.cells.toList ++ xs.drop (off + k) = xs')
    (hk : satS c Q ⟨putF o.dst .undef fr, setCells mem i [.res (rowRes e size (some ⟨g, 0, none⟩) n cap xs')], todo⟩ ids) : satN c Q (.op o ⟨fr, mem, todo⟩) ids :=
  n_runS hd fun ids' w ρ0 hp hI hρ => by
    subst ha
    have hx' := hρ xa _ hx
    simp only [den, Option.some.injEq] at hx'
    have hv' := hρ xv _ hv
    rw [den_mono hp _ _ hrv] at hv'
    simp only [Option.some.injEq] at hv'
    have hR0 := hI.res i hb rfl
    obtain ⟨w', hrun, hf, hR⟩ := row_store (P := c.P) hR0 hs hsz h1 hle
    rw [hl'] at hR
    refine ⟨w', _, ids', ?_, List.prefix_refl _, hI.updR (ρ' := rowRes e size (some ⟨g, 0, none⟩) n cap xs') i hb rfl rfl hf hR (fun x hx => .inl hx) (fun x hx => Nat.lt_of_lt_of_le (hI.resLt i hb rfl x hx) hf.size), satS_mono hp hk⟩
    unfold execOp
    simp [ho, ← hx', ← hv', hrun]
end
/-- One cell of one element. -/
theorem flat_set1 {α : Type} {f : α → List Value} {size : Nat} (hf : ∀ x, (f x).length = size) {L : List α} {i j : Nat} {x x' : α} (hx : L[i]? = some x) (hj : j < size) {u : Value} (hu : f x' = (f x).set j u) : (L.flatMap f).take (i * size + j) ++ [u] ++ (L.flatMap f).drop (i * size + j + 1) = (L.set i x').flatMap f := by
  have hi : i < L.length := (List.getElem?_eq_some_iff.1 hx).1
  rw [← flat_set hf hi, hu]
  have hlen := flat_len hf L
  have hm : i * size + size ≤ (L.flatMap f).length := by
    rw [hlen, ← Nat.succ_mul]; exact Nat.mul_le_mul_right _ hi
  apply List.ext_getElem?
  intro q
  have hat : ∀ j, j < size → (L.flatMap f)[i * size + j]? = (f x)[j]? := fun j hj => flat_at hf hx hj
  simp only [List.getElem?_append, List.length_append, List.length_take, List.getElem?_take, List.getElem?_drop, List.length_set, hf, List.length_cons, List.length_nil]
  rw [Nat.min_eq_left (by omega), Nat.min_eq_left (by omega)]
  by_cases h1 : q < i * size
  · rw [if_pos (by omega), if_pos (by omega), if_pos (by omega), if_pos (by omega), if_pos h1, if_pos (by omega)]
  · by_cases h2 : q < i * size + size
    · rw [if_pos (c := q < i * size + size) h2, if_neg (c := q < i * size) h1, List.getElem?_set, hf]
      by_cases h3 : q < i * size + j
      · rw [if_pos (by omega), if_pos h3, if_pos h3, if_neg (by omega), ← hat _ (by omega)]
        congr 1; omega
      · by_cases h4 : q = i * size + j
        · subst h4
          rw [if_pos (by omega), if_neg (by omega), if_pos (by omega), if_pos (by omega)]
          simp
        · rw [if_neg (by omega), if_neg (by omega), ← hat _ (by omega)]
          congr 1; omega
    · rw [if_neg (by omega), if_neg (c := q < i * size + size) h2]
      congr 1; omega
end
section
set_option linter.unusedVariables false
set_option linter.unusedSimpArgs false
open Go.RowKit

section
variable {c : Ctx} {Q : SExit → Fr → Mem → List Nat → World → Prop} {ids ids' : List Nat} {w w' : World} {fr : Fr} {mem junk mem2 : Mem} {todo : List Task}
theorem nth_app_left {l r : Mem} {i : Nat} (h : i < l.length) : nth (l ++ r) i = nth l i := by rw [nth_eq, nth_eq, List.getElem?_append_left h]
theorem nth_app_right {l r : Mem} {i : Nat} (h : l.length ≤ i) : nth (l ++ r) i = nth r (i - l.length) := by rw [nth_eq, nth_eq, List.getElem?_append_right h]

theorem Inv.swap (hI : Inv c w ids' (mem ++ junk)) (hp : ids <+: ids') (hrw : ∀ i b, nth mem i = some b → b.rw = true) (hP : Post (memRes ids mem) (memRes ids mem2) w w') (hlen : mem2.length = mem.length) : Inv c w' ids' (mem2 ++ junk) := by
  obtain ⟨hf, ⟨r1, r2, r3⟩, hfp, hlt⟩ := hP
  have hl : ids.length = mem.length := r1.trans hlen
  have hil : ∀ i, i < ids.length → ids'[i]? = ids[i]? := fun i hi => by
    obtain ⟨r, rfl⟩ := hp
    rw [List.getElem?_append_left hi]
  have hfpe : ∀ i b, i < ids.length → fpOf ids' i b = fpOf ids i b := fun i b hi => fpOf_ids hp hi
  have hold : ∀ x ∈ (memRes ids mem).fp, ∃ i b, nth (mem ++ junk) i = some b ∧ i < mem.length ∧ b.rw = true ∧ x ∈ fpOf ids' i b := by
    intro x hx
    obtain ⟨i, b, hb, hx⟩ := fpsOf_inv hl hx
    have hi := nth_lt hb
    exact ⟨i, b, by rw [nth_app_left hi]; exact hb, hi, hrw i b hb, by rw [hfpe i b (by omega)]; exact hx⟩
  have hown : ∀ x ∈ (memRes ids mem).fp, x ∈ c.S ∨ c.w0.heap.size ≤ x := fun x hx => by
    obtain ⟨i, b, hb, _, hr, hx⟩ := hold x hx
    exact hI.own i b hb hr x hx
  have hsize := hI.frm.size
  have hnew : ∀ i b, nth mem2 i = some b → ∀ x ∈ fpOf ids' i b, x ∈ (memRes ids mem).fp ∨ w.heap.size ≤ x := fun i b hb x hx => by
    have hi := nth_lt hb
    rw [hfpe i b (by omega)] at hx
    exact hfp x (fpsOf_mem r1 hb x hx)
  have hjunk : ∀ j b, mem.length ≤ j → nth (mem ++ junk) j = some b → ∀ x ∈ fpOf ids' j b, x ∉ (memRes ids mem).fp := fun j b hj hb x hx hxm => by
    obtain ⟨i, b', hb', hi, _, hx'⟩ := hold x hxm
    exact hI.apart i j b' b hb' hb (by omega) x hx' hx
  have hcase : ∀ i b, nth (mem2 ++ junk) i = some b → (i < mem.length ∧ nth mem2 i = some b) ∨ (mem.length ≤ i ∧ nth (mem ++ junk) i = some b) := fun i b hb => by
    rcases Nat.lt_or_ge i mem.length with h | h
    · rw [nth_app_left (by omega)] at hb; exact .inl ⟨h, hb⟩
    · rw [nth_app_right (by omega), hlen] at hb
      rw [nth_app_right h]; exact .inr ⟨h, hb⟩
  refine ⟨hI.frm.then hf hown, ?_, ?_, ?_, ?_⟩
  · rw [hI.len]; simp [hlen]
  · intro i b hb
    rcases hcase i b hb with ⟨hi, hb⟩ | ⟨hi, hb⟩
    · exact (r2 i b hb).ids hp (by omega)
    · exact (hI.good i b hb).keep (fun x hx => hf.block x ((hI.good i b hb).lt x hx) (hjunk i b hi hb x hx)) hf.size
  · intro i j bi bj hi hj hij x hx hxj
    rcases hcase i bi hi with ⟨hil', hi⟩ | ⟨hil', hi⟩ <;> rcases hcase j bj hj with ⟨hjl, hj⟩ | ⟨hjl, hj⟩
    · rw [hfpe i bi (by omega)] at hx
      rw [hfpe j bj (by omega)] at hxj
      exact r3 i j bi bj hi hj hij x hx hxj
    · rcases hnew i bi hi x hx with h | h
      · exact hjunk j bj hjl hj x hxj h
      · have := (hI.good j bj hj).lt x hxj; omega
    · rcases hnew j bj hj x hxj with h | h
      · exact hjunk i bi hil' hi x hx h
      · have := (hI.good i bi hi).lt x hx; omega
    · exact hI.apart i j bi bj hi hj hij x hx hxj
  · intro i b hb hr x hx
    rcases hcase i b hb with ⟨hi, hb⟩ | ⟨hi, hb⟩
    · rcases hnew i b hb x hx with h | h
      · exact hown x h
      · right; omega
    · exact hI.own i b hb hr x hx

/-- A call that turns the opened parts mem0 into others. -/
theorem n_callM {Y : Type} {f : FuncId} {args : List SV} {vs : List Value} {dst : Option Nat} (ids0 : List Nat) (mem0 : Mem) (junk : Mem) (mem2 : Y → Mem) (r : Y → SV) (v : Y → Value) (p : Y → Prop) (hd : dstOk c dst = true) (hv : denL ids args = some vs) (hr : ∀ y, den ids (r y) = some (v y))
    (hm : mem = mem0 ++ junk) (hids : ids0 <+: ids) (hsel : ∀ ids', ids <+: ids' → Sel true ids' (mem0 ++ junk) (List.range mem0.length) ids0 mem0) (hrw : ∀ i b, nth mem0 i = some b → b.rw = true) (hlen : ∀ y, p y → (mem2 y).length = mem0.length)
    (h : ∀ ids' w, ids <+: ids' → Inv c w ids' mem → (memRes ids0 mem0).R w → Calls c.P f vs.toArray w (fun e w2 => ∃ y, e = .returned (v y) ∧ p y ∧ Post (memRes ids0 mem0) (memRes ids0 (mem2 y)) w w2))
    (hk : ∀ y, p y → satS c Q ⟨putF dst (r y) fr, mem2 y ++ junk, todo⟩ ids) : satN c Q (.call f args dst ⟨fr, mem, todo⟩) ids := by
  subst hm
  refine n_call hd hv fun ids' w hp hI => ?_
  have hR := (memRes_shut hI _ (hsel ids' hp) List.nodup_range).1
  refine (h ids' w hp hI hR).mono ?_
  rintro e w2 ⟨y, he, hpy, hP⟩
  exact ⟨r y, v y, _, ids', he, den_mono hp _ _ (hr y), List.prefix_refl _, hI.swap (hids.trans hp) hrw hP (hlen y hpy), satS_mono hp (hk y hpy)⟩
end
end
end Go.Proofs.YtglafgpjgkphkaaGreatDoor
