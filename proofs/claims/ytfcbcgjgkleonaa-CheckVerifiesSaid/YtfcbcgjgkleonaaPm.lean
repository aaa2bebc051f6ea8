/- A call on parts that lie opened. -/
import Derived.Test.YtfcbcgjgkleonaaRw
set_option linter.unusedVariables false
set_option linter.unusedSimpArgs false
namespace Go.Proofs.Ytfcbcgjgkleonaa
open Go.RowKit

section
variable {c : Ctx} {Q : SExit → Fr → Mem → List Nat → World → Prop} {ids ids' : List Nat} {w w' : World} {fr : Fr} {mem junk mem2 : Mem} {todo : List Task}
theorem nth_app_left {l r : Mem} {i : Nat} (h : i < l.length) : nth (l ++ r) i = nth l i := by rw [nth_eq, nth_eq, List.getElem?_append_left h]
theorem nth_app_right {l r : Mem} {i : Nat} (h : l.length ≤ i) : nth (l ++ r) i = nth r (i - l.length) := by rw [nth_eq, nth_eq, List.getElem?_append_right h]

theorem Inv.swap (hI : Inv c w ids' (mem ++ junk)) (hp : ids <+: ids') (hrw : ∀ i b, nth mem i = some b → b.rw = true) (hP : Post (memRes ids mem) (memRes ids mem2) w w') (hlen : mem2.length = mem.length) : Inv c w' ids' (mem2 ++ junk) := by
  obtain ⟨hf, ⟨r1, r2, r3⟩, hfp, hlt⟩ := hP
  have hl : ids.length = mem.length := r1.trans hlen
  have hil : ∀ i, i < ids.length → ids'[i]? = ids[i]? := fun i hi => by
    obtain ⟨r, rfl⟩ := hp
    rw [List.getElem?_append_left hi]
  have hfpe : ∀ i b, i < ids.length → fpOf ids' i b = fpOf ids i b := fun i b hi => fpOf_ids hp hi
  have hold : ∀ x ∈ (memRes ids mem).fp, ∃ i b, nth (mem ++ junk) i = some b ∧ i < mem.length ∧ b.rw = true ∧ x ∈ fpOf ids' i b := by
    intro x hx
    obtain ⟨i, b, hb, hx⟩ := fpsOf_inv hl hx
    have hi := nth_lt hb
    exact ⟨i, b, by rw [nth_app_left hi]; exact hb, hi, hrw i b hb, by rw [hfpe i b (by omega)]; exact hx⟩
  have hown : ∀ x ∈ (memRes ids mem).fp, x ∈ c.S ∨ c.w0.heap.size ≤ x := fun x hx => by
    obtain ⟨i, b, hb, _, hr, hx⟩ := hold x hx
    exact hI.own i b hb hr x hx
  have hsize := hI.frm.size
  have hnew : ∀ i b, nth mem2 i = some b → ∀ x ∈ fpOf ids' i b, x ∈ (memRes ids mem).fp ∨ w.heap.size ≤ x := fun i b hb x hx => by
    have hi := nth_lt hb
    rw [hfpe i b (by omega)] at hx
    exact hfp x (fpsOf_mem r1 hb x hx)
  have hjunk : ∀ j b, mem.length ≤ j → nth (mem ++ junk) j = some b → ∀ x ∈ fpOf ids' j b, x ∉ (memRes ids mem).fp := fun j b hj hb x hx hxm => by
    obtain ⟨i, b', hb', hi, _, hx'⟩ := hold x hxm
    exact hI.apart i j b' b hb' hb (by omega) x hx' hx
  have hcase : ∀ i b, nth (mem2 ++ junk) i = some b → (i < mem.length ∧ nth mem2 i = some b) ∨ (mem.length ≤ i ∧ nth (mem ++ junk) i = some b) := fun i b hb => by
    rcases Nat.lt_or_ge i mem.length with h | h
    · rw [nth_app_left (by omega)] at hb; exact .inl ⟨h, hb⟩
    · rw [nth_app_right (by omega), hlen] at hb
      rw [nth_app_right h]; exact .inr ⟨h, hb⟩
  refine ⟨hI.frm.then hf hown, ?_, ?_, ?_, ?_⟩
  · rw [hI.len]; simp [hlen]
  · intro i b hb
    rcases hcase i b hb with ⟨hi, hb⟩ | ⟨hi, hb⟩
    · exact (r2 i b hb).ids hp (by omega)
    · exact (hI.good i b hb).keep (fun x hx => hf.block x ((hI.good i b hb).lt x hx) (hjunk i b hi hb x hx)) hf.size
  · intro i j bi bj hi hj hij x hx hxj
    rcases hcase i bi hi with ⟨hil', hi⟩ | ⟨hil', hi⟩ <;> rcases hcase j bj hj with ⟨hjl, hj⟩ | ⟨hjl, hj⟩
    · rw [hfpe i bi (by omega)] at hx
      rw [hfpe j bj (by omega)] at hxj
      exact r3 i j bi bj hi hj hij x hx hxj
    · rcases hnew i bi hi x hx with h | h
      · exact hjunk j bj hjl hj x hxj h
      · have := (hI.good j bj hj).lt x hxj; omega
    · rcases hnew j bj hj x hxj with h | h
      · exact hjunk i bi hil' hi x hx h
      · have := (hI.good i bi hi).lt x hx; omega
    · exact hI.apart i j bi bj hi hj hij x hx hxj
  · intro i b hb hr x hx
    rcases hcase i b hb with ⟨hi, hb⟩ | ⟨hi, hb⟩
    · rcases hnew i b hb x hx with h | h
      · exact hown x h
      · right; omega
    · exact hI.own i b hb hr x hx

/-- A call that turns the opened parts mem0 into others. -/
theorem n_callM {Y : Type} {f : FuncId} {args : List SV} {vs : List Value} {dst : Option Nat} (ids0 : List Nat) (mem0 : Mem) (junk : Mem) (mem2 : Y → Mem) (r : Y → SV) (v : Y → Value) (p : Y → Prop) (hd : dstOk c dst = true) (hv : denL ids args = some vs) (hr : ∀ y, den ids (r y) = some (v y))
    (hm : mem = mem0 ++ junk) (hids : ids0 <+: ids) (hsel : ∀ ids', ids <+: ids' → Sel true ids' (mem0 ++ junk) (List.range mem0.length) ids0 mem0) (hrw : ∀ i b, nth mem0 i = some b → b.rw = true) (hlen : ∀ y, p y → (mem2 y).length = mem0.length)
    (h : ∀ ids' w, ids <+: ids' → Inv c w ids' mem → (memRes ids0 mem0).R w → Calls c.P f vs.toArray w (fun e w2 => ∃ y, e = .returned (v y) ∧ p y ∧ Post (memRes ids0 mem0) (memRes ids0 (mem2 y)) w w2))
    (hk : ∀ y, p y → satS c Q ⟨putF dst (r y) fr, mem2 y ++ junk, todo⟩ ids) : satN c Q (.call f args dst ⟨fr, mem, todo⟩) ids := by
  subst hm
  refine n_call hd hv fun ids' w hp hI => ?_
  have hR := (memRes_shut hI _ (hsel ids' hp) List.nodup_range).1
  refine (h ids' w hp hI hR).mono ?_
  rintro e w2 ⟨y, he, hpy, hP⟩
  exact ⟨r y, v y, _, ids', he, den_mono hp _ _ (hr y), List.prefix_refl _, hI.swap (hids.trans hp) hrw hP (hlen y hpy), satS_mono hp (hk y hpy)⟩
end
end Go.Proofs.Ytfcbcgjgkleonaa
