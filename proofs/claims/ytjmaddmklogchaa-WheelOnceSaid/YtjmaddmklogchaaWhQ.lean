/- Chapter 5, plain: a row of dues, and the timers that it tells. -/
import Derived.Test.YtjmaddmklogchaaWhP
set_option maxRecDepth 100000
set_option linter.unusedSimpArgs false
set_option linter.unusedVariables false
namespace Go.Proofs.Ytjmaddmklogchaa
open Go.RowKit

def updD (D : Nat → Int) (k : Nat) (v : Int) : Nat → Int := fun j => if j = k then v else D j
abbrev tmO (v : Int) (j : Nat) : Tm := ⟨v, ((j + 1 : Nat) : Int), ((100 + j : Nat) : Int), (j : Int)⟩
def absE (D : Nat → Int) (j : Nat) : Option Tm := if D (j + 1) = 0 then none else some (tmO (D (j + 1)) j)
def absF (D : Nat → Int) (n : Nat) : List Tm := (List.range n).filterMap (absE D)
def dueE (D : Nat → Int) (x : Int) (j : Nat) : Option Tm := if D (j + 1) = x then some (tmO x j) else none
def dueF (D : Nat → Int) (x : Int) (n : Nat) : List Tm := (List.range n).filterMap (dueE D x)
theorem abs_congr {D E : Nat → Int} {n : Nat} (h : ∀ j, j < n → D (j + 1) = E (j + 1)) : absF D n = absF E n := by
  unfold absF
  have : ∀ l : List Nat, (∀ j ∈ l, j < n) → l.filterMap (absE D) = l.filterMap (absE E) := by
    intro l hl
    induction l with
    | nil => rfl
    | cons a l ih =>
      have e : absE D a = absE E a := by unfold absE; rw [h a (hl a (by simp))]
      rw [List.filterMap_cons, List.filterMap_cons, e, ih fun j hj => hl j (by simp [hj])]
  exact this _ fun j hj => List.mem_range.1 hj
theorem abs_succ (D : Nat → Int) (n : Nat) : absF D (n + 1) = absF D n ++ (absE D n).toList := by
  unfold absF
  rw [List.range_succ, List.filterMap_append]
  congr 1
theorem abs_arm {D : Nat → Int} {n : Nat} {v : Int} (hv : v ≠ 0) : absF (updD D (n + 1) v) (n + 1) = absF D n ++ [tmO v n] := by
  rw [abs_succ, abs_congr (E := D) fun j hj => by unfold updD; rw [if_neg (by omega)]]
  have : absE (updD D (n + 1) v) n = some (tmO v n) := by
    unfold absE updD
    simp [hv]
  rw [this]; rfl
theorem mem_abs {D : Nat → Int} {n : Nat} {t : Tm} : t ∈ absF D n ↔ ∃ j, j < n ∧ D (j + 1) ≠ 0 ∧ t = tmO (D (j + 1)) j := by
  unfold absF
  rw [List.mem_filterMap]
  constructor
  · rintro ⟨j, hj, h⟩
    unfold absE at h
    split at h
    · cases h
    · rename_i h0
      exact ⟨j, List.mem_range.1 hj, h0, (Option.some.inj h).symm⟩
  · rintro ⟨j, hj, h0, rfl⟩
    exact ⟨j, List.mem_range.2 hj, by unfold absE; rw [if_neg h0]⟩
theorem abs_filter {D E : Nat → Int} {p : Tm → Bool} : ∀ {n : Nat}, (∀ j, j < n → ((absE D j).toList.filter p = (absE E j).toList)) → (absF D n).filter p = absF E n
  | 0, _ => rfl
  | n + 1, h => by
    rw [abs_succ, abs_succ, List.filter_append, abs_filter fun j hj => h j (by omega), h n (by omega)]
theorem abs_cancel {D : Nat → Int} {n k : Nat} (hk : 1 ≤ k) : (absF D n).filter (fun t => decide (t.num ≠ (k : Int))) = absF (updD D k 0) n := by
  refine abs_filter fun j hj => ?_
  by_cases e : j + 1 = k
  · subst e
    have h1 : absE (updD D (j + 1) 0) j = none := by unfold absE updD; simp
    rw [h1]
    unfold absE
    split
    · rfl
    · simp
  · have h1 : absE (updD D k 0) j = absE D j := by unfold absE updD; rw [if_neg e]
    rw [h1]
    unfold absE
    split
    · rfl
    · have : ¬ ((j + 1 : Nat) : Int) = (k : Int) := by omega
      simp [this]
      omega
theorem abs_has {D : Nat → Int} {n : Nat} {x : Int} : (absF D n).any (fun t => decide (t.num = x)) = true ↔ ∃ j, j < n ∧ D (j + 1) ≠ 0 ∧ ((j + 1 : Nat) : Int) = x := by
  rw [List.any_eq_true]
  constructor
  · rintro ⟨t, ht, h⟩
    obtain ⟨j, hj, h0, rfl⟩ := mem_abs.1 ht
    exact ⟨j, hj, h0, of_decide_eq_true h⟩
  · rintro ⟨j, hj, h0, h⟩
    exact ⟨_, mem_abs.2 ⟨j, hj, h0, rfl⟩, decide_eq_true h⟩
theorem abs_idle {D : Nat → Int} {n : Nat} {x : Int} (h : ¬ ∃ j, j < n ∧ D (j + 1) ≠ 0 ∧ ((j + 1 : Nat) : Int) = x) : (absF D n).filter (fun t => decide (t.num ≠ x)) = absF D n := by
  refine filter_idle fun t ht => ?_
  obtain ⟨j, hj, h0, rfl⟩ := mem_abs.1 ht
  rw [decide_eq_true_eq]
  exact fun e => h ⟨j, hj, h0, e⟩
def tickD (D : Nat → Int) (x : Int) : Nat → Int := fun j => if D j = x then 0 else D j
theorem abs_tick {D : Nat → Int} {n : Nat} {x : Int} : (absF D n).filter (fun t => decide (t.due ≠ x)) = absF (tickD D x) n := by
  refine abs_filter fun j hj => ?_
  unfold absE tickD
  by_cases h0 : D (j + 1) = 0
  · by_cases h1 : (0 : Int) = x
    · simp [h0]
    · simp [h0]
  · by_cases h1 : D (j + 1) = x
    · subst h1
      simp [h0]
    · simp [h0, h1]
theorem due_succ (D : Nat → Int) (x : Int) (n : Nat) : dueF D x (n + 1) = dueF D x n ++ (dueE D x n).toList := by
  unfold dueF
  rw [List.range_succ, List.filterMap_append]
  congr 1
theorem abs_due {D : Nat → Int} {x : Int} (hx : x ≠ 0) : ∀ {n : Nat}, (absF D n).filter (fun t => decide (t.due = x)) = dueF D x n
  | 0 => rfl
  | n + 1 => by
    rw [abs_succ, due_succ, List.filter_append, abs_due hx]
    congr 1
    unfold absE dueE
    by_cases h1 : D (n + 1) = x
    · subst h1
      simp [hx]
    · by_cases h0 : D (n + 1) = 0
      · have : ¬ (0 : Int) = x := fun e => hx e.symm
        simp [h0, this]
      · simp [h0, h1]
theorem due_len (D : Nat → Int) (x : Int) (n : Nat) : (dueF D x n).length ≤ n := by
  unfold dueF
  have := List.length_filterMap_le (dueE D x) (List.range n)
  simpa using this
theorem due_pre (D : Nat → Int) (x : Int) {i : Nat} : ∀ {n : Nat}, i ≤ n → ∃ l, dueF D x n = dueF D x i ++ l
  | 0, h => by obtain rfl : i = 0 := by omega
               exact ⟨[], by simp⟩
  | n + 1, h => by
    by_cases e : i = n + 1
    · subst e; exact ⟨[], by simp⟩
    · obtain ⟨l, hl⟩ := due_pre D x (show i ≤ n by omega)
      exact ⟨l ++ (dueE D x n).toList, by rw [due_succ, hl, List.append_assoc]⟩
theorem due_at {D : Nat → Int} {x : Int} {i n : Nat} (hi : i < n) (h : D (i + 1) = x) : (dueF D x n)[(dueF D x i).length]? = some (tmO x i) ∧ (dueF D x (i + 1)).length = (dueF D x i).length + 1 := by
  have e : dueE D x i = some (tmO x i) := by unfold dueE; rw [if_pos h]
  obtain ⟨l, hl⟩ := due_pre D x (show i + 1 ≤ n by omega)
  rw [due_succ, e] at hl
  refine ⟨by rw [hl]; simp, by rw [due_succ, e]; simp⟩
theorem due_no {D : Nat → Int} {x : Int} {i : Nat} (h : D (i + 1) ≠ x) : (dueF D x (i + 1)).length = (dueF D x i).length := by
  have e : dueE D x i = none := by unfold dueE; rw [if_neg h]
  rw [due_succ, e]; simp
end Go.Proofs.Ytjmaddmklogchaa
