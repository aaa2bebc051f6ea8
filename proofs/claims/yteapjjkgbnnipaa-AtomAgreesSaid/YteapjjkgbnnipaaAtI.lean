/- Chapter 16's law in plain numbers. -/
import Derived.Test.YteapjjkgbnnipaaAtH
set_option maxRecDepth 100000
set_option linter.unusedSimpArgs false
set_option linter.unusedVariables false
set_option maxHeartbeats 4000000
namespace Go.Proofs.Yteapjjkgbnnipaa
open Go.RowKit

theorem sum_put (l : List (Int × Int)) (x y : Int) : Ctr.sum (mput l x y) = Ctr.sum l - (mget l x).getD 0 + y := by
  induction l with
  | nil => simp [mput, mget, Ctr.sum]
  | cons p l ih =>
    obtain ⟨x', z⟩ := p
    by_cases e : x' = x
    · simp [mput, mget, e, Ctr.sum]; omega
    · simp only [mput, mget, e, if_false, Ctr.sum, List.map_cons, List.sum_cons] at ih ⊢; omega

theorem Ctr.ok.inc {s : Ctr} (ok : s.ok) (x : Int) : (s.inc x).1.ok := by
  unfold Ctr.inc
  split
  · exact ok
  · split
    · exact ok
    · exact ⟨by dsimp only; omega, ok.h0, by dsimp only; omega, ok.cap, ok.all, ok.held⟩
theorem Ctr.ok.hold {s : Ctr} (ok : s.ok) (a h : Int) (ha : 0 ≤ a) : (s.hold a h).1.ok := by
  have h0 := ok.h0
  have hs := ok.sum
  unfold Ctr.hold
  split
  · exact ok
  · split
    · exact ok
    · rename_i hn
      split
      · exact ok
      · refine ⟨by dsimp only; omega, by dsimp only; omega, by dsimp only; omega, ok.cap, fun p hp => ?_, ?_⟩
        · rcases mput_keys _ _ _ p hp with h | rfl
          · exact ok.all p h
          · exact ha
        · have e : mget s.holds h = none := by simpa using hn
          dsimp only
          rw [sum_put, e, ← ok.held]; simp
theorem Ctr.ok.end_ {s : Ctr} (ok : s.ok) (k a : Int) : (s.end_ k a).1.ok := by
  have h0 := ok.h0
  have v0 := ok.v0
  have hs := ok.sum
  have hh := had_le ok.all a
  rw [← ok.held] at hh
  change 0 ≤ s.had a ∧ s.had a ≤ s.held at hh
  unfold Ctr.end_
  split
  · exact ok
  · refine ⟨?_, by dsimp only; omega, ?_, ok.cap, fun p hp => ?_, ?_⟩
    · dsimp only; split <;> omega
    · dsimp only; split <;> omega
    · rcases mput_keys _ _ _ p hp with h | rfl
      · exact ok.all p h
      · exact Int.le_refl _
    · dsimp only
      rw [sum_put, ← ok.held]; unfold Ctr.had; omega
theorem Ctr.ok.take {s : Ctr} (ok : s.ok) (a b : Int) (hb : 0 ≤ b) : (s.take a b).1.ok := by
  have hs := ok.sum
  unfold Ctr.take
  split
  · exact ok
  · split
    · exact ok
    · exact ⟨by dsimp only; omega, ok.h0, by dsimp only; omega, ok.cap, ok.all, ok.held⟩
theorem Ctr.ok.reset {s : Ctr} (ok : s.ok) (a : Int) (ha : 0 ≤ a) : (s.reset a).1.ok := by
  unfold Ctr.reset
  split
  · exact ok
  · exact ⟨ha, ok.h0, by dsimp only; omega, ok.cap, ok.all, ok.held⟩
theorem Ctr.ok.recap {s : Ctr} (ok : s.ok) (a : Int) (ha : a ≤ 1099511627776) : (s.recap a).1.ok := by
  unfold Ctr.recap
  split
  · exact ok
  · exact ⟨ok.v0, ok.h0, by dsimp only; omega, ha, ok.all, ok.held⟩

/-- What a right op's numbers are. -/
theorem right_nums {k : Int} {nm : ByteArray} {a b : Int} (h : rightB k nm a b = true) :
    (k = 1 → 1 ≤ a ∧ a ≤ 1099511627776 ∧ 0 ≤ b) ∧ (k = 2 ∨ k = 3 ∨ k = 10 ∨ k = 4 → 1 ≤ a ∧ a ≤ 1099511627776) ∧ (k = 8 → 1 ≤ b ∧ 0 ≤ a ∧ a ≤ 1099511627776) ∧ (k = 9 → 0 ≤ a ∧ a ≤ 1099511627776) ∧ (k = 7 → a = 0) ∧ (k = 1 ∨ k = 2 ∨ k = 3 ∨ k = 4 ∨ k = 5 ∨ k = 6 ∨ k = 7 ∨ k = 8 ∨ k = 9 ∨ k = 10 ∨ k = 12) := by
  unfold rightB at h
  repeat' split at h
  all_goals simp [amountB] at h
  all_goals (try subst k)
  all_goals simp
  all_goals omega

theorem actF_ok {s : Ctr} (ok : s.ok) {k a b h : Int} {nm : ByteArray} (hr : rightB k nm a b = true) : (actF s k a b h).1.ok := by
  obtain ⟨r1, r2, r3, r4, r5, r6⟩ := right_nums hr
  unfold actF
  split
  · exact ok.inc _
  · split
    · exact ok.inc _
    · split
      · rename_i hk; exact ok.hold _ _ (by have := r2 (by simp [hk]); omega)
      · split
        · exact ok.end_ _ _
        · split
          · exact ok.end_ _ _
          · split
            · exact ok.end_ _ _
            · split
              · rename_i hk; exact ok.take _ _ (by have := r3 hk; omega)
              · split
                · rename_i hk; exact ok.reset _ (by have := r4 hk; omega)
                · split
                  · rename_i hk; exact ok.recap _ (by have := r2 (by simp [hk]); omega)
                  · exact ok

abbrev AllOk (A : All) : Prop := ∀ x ∈ A, x.2.ok
theorem AllOk.put {A : All} (h : AllOk A) (nm : ByteArray) {s : Ctr} (hs : s.ok) : AllOk (mput A nm s) := fun x hx => by
  rcases mput_keys _ _ _ x hx with h1 | rfl
  · exact h x h1
  · exact hs
theorem doF_ok {A : All} (ok : AllOk A) (hn : Nat) (k : Int) (nm : ByteArray) (a b h : Int) : AllOk (doF A hn k nm a b h).1 := by
  unfold doF
  split
  · exact ok
  · rename_i hr
    have hr' : rightB k nm a b = true := by simpa using hr
    split
    · split
      · rename_i hk
        split
        · exact ok
        · have := (right_nums hr').1 hk
          exact ok.put _ ⟨by dsimp only; omega, Int.le_refl _, by dsimp only; omega, by dsimp only; omega, by simp, by simp [Ctr.sum]⟩
      · exact ok
    · rename_i s hm
      split
      · exact ok
      · exact ok.put _ (actF_ok (ok _ (mget_some hm)) hr')
theorem doF_errs {A : All} {hn : Nat} {k : Int} {nm : ByteArray} {a b h : Int} (he : (doF A hn k nm a b h).2.2 ≠ 0) : (doF A hn k nm a b h).1 = A ∧ (doF A hn k nm a b h).2.1 = 0 := by
  revert he
  unfold doF
  split
  · simp
  · split
    · repeat' split
      all_goals simp
    · rename_i s hm
      split
      · simp
      · intro he
        have := actF_err he
        refine ⟨?_, this.2⟩
        dsimp only
        rw [this.1, mput_self hm]
theorem doF_other {A : All} {hn : Nat} {k : Int} {nm nm' : ByteArray} {a b h : Int} (hne : nm' ≠ nm) : lookOf (doF A hn k nm a b h).1 nm' = lookOf A nm' := by
  have hp : ∀ s, lookOf (mput A nm s) nm' = lookOf A nm' := fun s => by unfold lookOf; rw [mget_put, if_neg fun e => hne e.symm]
  unfold doF
  repeat' split
  all_goals first | rfl | exact hp _
theorem look_bounds {A : All} (ok : AllOk A) (nm : ByteArray) : 0 ≤ (lookOf A nm).v ∧ 0 ≤ (lookOf A nm).h ∧ (lookOf A nm).v + (lookOf A nm).h ≤ (lookOf A nm).l ∧ (lookOf A nm).l ≤ 1099511627776 := by
  unfold lookOf
  cases hm : mget A nm with
  | none => simp
  | some s =>
    have := ok _ (mget_some hm)
    exact ⟨this.v0, this.h0, this.sum, this.cap⟩
theorem doF_fits {A : All} (ok : AllOk A) {hn : Nat} {k : Int} {nm : ByteArray} {a b h : Int} (he : (doF A hn k nm a b h).2.2 = 0) : fitsB k nm a b (doF A hn k nm a b h).2.1 (lookOf A nm) (lookOf (doF A hn k nm a b h).1 nm) = true := by
  revert he
  unfold doF
  split
  · simp
  · rename_i hr
    have hr' : rightB k nm a b = true := by simpa using hr
    obtain ⟨r1, r2, r3, r4, r5, r6⟩ := right_nums hr'
    split
    · rename_i hm
      split
      · rename_i hk
        subst hk
        split
        · simp
        · intro _
          have e1 : lookOf A nm = ⟨0, 0, 0, false⟩ := by unfold lookOf; rw [hm]
          have e2 : lookOf (mput A nm ⟨a, b, 0, hn, []⟩) nm = ⟨b, 0, a, true⟩ := by unfold lookOf; rw [mget_put, if_pos rfl]
          dsimp only
          rw [e1, e2]; simp [fitsB]
      · simp
    · rename_i s hm
      split
      · simp
      · rename_i hk1
        have oks := ok _ (mget_some hm)
        intro he
        dsimp only at he ⊢
        have e1 : lookOf A nm = ⟨s.value, s.held, s.limit, true⟩ := by unfold lookOf; rw [hm]
        have e2 : ∀ s', lookOf (mput A nm s') nm = ⟨s'.value, s'.held, s'.limit, true⟩ := fun s' => by unfold lookOf; rw [mget_put, if_pos rfl]
        rw [e1, e2]
        have hh := had_le oks.all a
        change 0 ≤ s.had a ∧ _ at hh
        rcases r6 with rfl | rfl | rfl | rfl | rfl | rfl | rfl | rfl | rfl | rfl | rfl
        · exact absurd rfl hk1
        all_goals (revert he; simp only [actF, reduceCtorEq, if_true, if_false, Int.reduceEq]; (try unfold Ctr.inc); (try unfold Ctr.hold); (try unfold Ctr.end_); (try unfold Ctr.take); (try unfold Ctr.reset); (try unfold Ctr.recap))
        all_goals (repeat' split)
        all_goals (first | (simp [fitsB]; done) | (simp [fitsB]; omega) | skip)
end Go.Proofs.Yteapjjkgbnnipaa
