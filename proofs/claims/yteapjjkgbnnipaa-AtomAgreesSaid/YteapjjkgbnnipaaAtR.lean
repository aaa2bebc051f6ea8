/- Chapter 16's law: maps with the same look-ups answer the same. -/
import Derived.Test.YteapjjkgbnnipaaAtQ
import Derived.Test.YteapjjkgbnnipaaAtK
set_option maxRecDepth 100000
set_option linter.unusedSimpArgs false
set_option linter.unusedVariables false
set_option maxHeartbeats 4000000
namespace Go.Proofs.Yteapjjkgbnnipaa
open Go.RowKit

theorem actF_like {s s' : Ctr} (h : s'.core = s.core) (k a b hh : Int) : (actF s' k a b hh).1.core = (actF s k a b hh).1.core ∧ (actF s' k a b hh).2 = (actF s k a b hh).2 := by
  obtain ⟨l, v, hd, q, m⟩ := s
  obtain ⟨l', v', hd', q', m'⟩ := s'
  simp only [Ctr.core, Prod.mk.injEq] at h
  obtain ⟨rfl, rfl, rfl, rfl⟩ := h
  have hinc : ∀ x, ((Ctr.inc ⟨l', v', hd', q', m'⟩ x).1.core = (Ctr.inc ⟨l', v', hd', q, m'⟩ x).1.core ∧ (Ctr.inc ⟨l', v', hd', q', m'⟩ x).2 = (Ctr.inc ⟨l', v', hd', q, m'⟩ x).2) := fun x => by
    unfold Ctr.inc Ctr.core
    by_cases h1 : v' + x < 0 <;> by_cases h2 : l' < v' + x + hd' <;> simp [h1, h2]
  have hend : ∀ x, ((Ctr.end_ ⟨l', v', hd', q', m'⟩ x a).1.core = (Ctr.end_ ⟨l', v', hd', q, m'⟩ x a).1.core ∧ (Ctr.end_ ⟨l', v', hd', q', m'⟩ x a).2 = (Ctr.end_ ⟨l', v', hd', q, m'⟩ x a).2) := fun x => by
    unfold Ctr.end_ Ctr.core Ctr.had
    by_cases h1 : (mget m' a).getD 0 = 0 <;> simp [h1]
  unfold actF
  split
  · exact hinc _
  · split
    · exact hinc _
    · split
      · unfold Ctr.hold Ctr.core
        by_cases h1 : v' < a <;> by_cases h2 : (mget m' hh).isSome <;> by_cases h3 : hh < 1 <;> simp [h1, h2, h3]
      · split
        · exact hend _
        · split
          · exact hend _
          · split
            · exact hend _
            · split
              · unfold Ctr.take Ctr.core
                by_cases h1 : v' = a
                · subst h1
                  by_cases h2 : v' < b <;> simp [h2]
                · simp [h1]
              · split
                · unfold Ctr.reset Ctr.core
                  by_cases h1 : l' < a + hd' <;> simp [h1]
                · split
                  · unfold Ctr.recap Ctr.core
                    by_cases h1 : a < v' + hd' <;> simp [h1]
                  · exact ⟨rfl, rfl⟩
theorem Same.put {A T : All} (h : Same A T) (nm : ByteArray) {s s' : Ctr} (hs : s'.core = s.core) : Same (mput A nm s) (mput T nm s') := by
  refine ⟨fun n2 x h2 => ?_, fun n2 x h2 => ?_⟩
  · rw [mget_put] at h2 ⊢
    by_cases e : nm = n2
    · rw [if_pos e] at h2 ⊢; simp at h2; subst h2; exact ⟨s, rfl, hs⟩
    · rw [if_neg e] at h2 ⊢; exact h.1 n2 x h2
  · rw [mget_put] at h2 ⊢
    by_cases e : nm = n2
    · rw [if_pos e] at h2 ⊢; simp at h2; subst h2; exact ⟨s', rfl, hs⟩
    · rw [if_neg e] at h2 ⊢; exact h.2 n2 x h2
theorem doF_like {A T : All} (h : Same A T) (hn hn' : Nat) (k : Int) (nm : ByteArray) (a b hh : Int) : (doF T hn' k nm a b hh).2 = (doF A hn k nm a b hh).2 ∧ Same (doF A hn k nm a b hh).1 (doF T hn' k nm a b hh).1 := by
  unfold doF
  by_cases hr : rightB k nm a b = false
  · rw [if_pos hr, if_pos hr]; exact ⟨rfl, h⟩
  · rw [if_neg hr, if_neg hr]
    cases hm : mget A nm with
    | none =>
      have hT : mget T nm = none := by
        cases hq : mget T nm with
        | none => rfl
        | some s' => obtain ⟨s, h1, _⟩ := h.1 nm s' hq; rw [hm] at h1; cases h1
      rw [hT]
      dsimp only
      repeat' split
      · exact ⟨rfl, h⟩
      · exact ⟨rfl, h.put nm rfl⟩
      · exact ⟨rfl, h⟩
    | some s =>
      obtain ⟨s', h1, h2⟩ := h.2 nm s hm
      rw [h1]
      dsimp only
      split
      · exact ⟨rfl, h⟩
      · obtain ⟨g1, g2⟩ := actF_like h2 k a b hh
        exact ⟨g2, h.put nm g1⟩
theorem look_like {A T : All} (h : Same A T) (nm : ByteArray) : lookOf T nm = lookOf A nm := by
  unfold lookOf
  cases hm : mget A nm with
  | none =>
    have hT : mget T nm = none := by
      cases hq : mget T nm with
      | none => rfl
      | some s' => obtain ⟨s, h1, _⟩ := h.1 nm s' hq; rw [hm] at h1; cases h1
    rw [hT]
  | some s =>
    obtain ⟨s', h1, h2⟩ := h.2 nm s hm
    rw [h1]
    simp only [Ctr.core, Prod.mk.injEq] at h2
    dsimp only
    rw [h2.1, h2.2.1, h2.2.2.1]
theorem Same.refl (A : All) : Same A A := ⟨fun _ s h => ⟨s, h, rfl⟩, fun _ s h => ⟨s, h, rfl⟩⟩
theorem Same.trans {A B C : All} (h : Same A B) (g : Same B C) : Same A C := by
  refine ⟨fun nm s h1 => ?_, fun nm s h1 => ?_⟩
  · obtain ⟨s2, h2, e2⟩ := g.1 nm s h1
    obtain ⟨s3, h3, e3⟩ := h.1 nm s2 h2
    exact ⟨s3, h3, e2.trans e3⟩
  · obtain ⟨s2, h2, e2⟩ := h.2 nm s h1
    obtain ⟨s3, h3, e3⟩ := g.2 nm s2 h2
    exact ⟨s3, h3, e3.trans e2⟩
theorem Same.symm {A B : All} (h : Same A B) : Same B A := ⟨fun nm s h1 => by obtain ⟨s2, h2, e⟩ := h.2 nm s h1; exact ⟨s2, h2, e.symm⟩, fun nm s h1 => by obtain ⟨s2, h2, e⟩ := h.1 nm s h1; exact ⟨s2, h2, e.symm⟩⟩
theorem AllOk.like {A T : All} (ok : AllOk A) (h : Same A T) (hnd : (T.map (·.1)).Nodup) : AllOk T := by
  intro x hx
  obtain ⟨j, hj, e⟩ := List.getElem_of_mem hx
  have h1 := (mget_at hnd (p := x) (j := j) (by rw [List.getElem?_eq_getElem hj, e])).1
  obtain ⟨s, h2, h3⟩ := h.1 x.1 x.2 h1
  exact (ok _ (mget_some h2)).like h3

/-- What the number given as a hold does to the answer: nothing, where the op is no OpHold. -/
theorem doF_hold {A : All} (hn : Nat) {k : Int} (hk : k ≠ 4) (nm : ByteArray) (a b x y : Int) : doF A hn k nm a b x = doF A hn k nm a b y := by
  unfold doF
  have : ∀ s : Ctr, actF s k a b x = actF s k a b y := fun s => by unfold actF; simp [hk]
  simp only [this]
/-- The answer of a Do, done again with its own value as the hold's number. -/
theorem doF_again {A : All} (hn : Nat) (k : Int) (nm : ByteArray) (a b x : Int) : (doF A hn k nm a b (doF A hn k nm a b x).2.1) = doF A hn k nm a b x ∨ (doF A hn k nm a b x).2.2 = 1 ∧ (doF A hn k nm a b (doF A hn k nm a b x).2.1).2.2 = 1 := by
  by_cases hk : k = 4
  · subst hk
    unfold doF
    by_cases hr : rightB 4 nm a b = false
    · simp [hr]
    · simp only [hr, if_false]
      cases hm : mget A nm with
      | none => first | exact .inl rfl | simp
      | some s =>
        simp only [show ¬ ((4 : Int) = 1) by decide, if_false, actF, show ¬ ((4 : Int) = 2) by decide, show ¬ ((4 : Int) = 3) by decide, if_true]
        unfold Ctr.hold
        by_cases h1 : s.value < a
        · simp [h1]
        · by_cases h2 : (mget s.holds x).isSome
          · right; simp [h1, h2]
          · by_cases h3 : x < 1
            · right; simp [h1, h2, h3]
            · left; simp [h1, h2, h3]
  · exact .inl (doF_hold hn hk nm a b _ _)
end Go.Proofs.Yteapjjkgbnnipaa
