/- Chapter 5, plain: timers as one list by numbers; slots; the list by due and number. -/
import Derived.Test.YtjmaddmklogchaaBnX
set_option maxRecDepth 100000
set_option linter.unusedSimpArgs false
set_option linter.unusedVariables false
namespace Go.Proofs.Ytjmaddmklogchaa
open Go.RowKit

structure Tm where
  due : Int
  num : Int
  kind : Int
  id : Int
deriving DecidableEq
abbrev Tm.l (t : Tm) : List Value := [.int .i64 t.due, .int .i64 t.num, .int .i64 t.kind, .int .i64 t.id]
theorem tm_len (t : Tm) : t.l.length = 4 := rfl
/-- All timers by rising numbers, the ticks gone by, the last number told. -/
structure Ws where
  A : List Tm
  now : Int
  last : Int
def delayF (d : Int) : Int := min (max d 1) 1099511627776
theorem delayF_in (d : Int) : 1 ≤ delayF d ∧ delayF d ≤ 1099511627776 := by unfold delayF; omega
def Ws.arm (s : Ws) (d k i : Int) : Ws := ⟨s.A ++ [⟨s.now + delayF d, s.last + 1, k, i⟩], s.now, s.last + 1⟩
def Ws.has (s : Ws) (n : Int) : Bool := s.A.any fun t => decide (t.num = n)
def Ws.cancel (s : Ws) (n : Int) : Ws := { s with A := s.A.filter fun t => decide (t.num ≠ n) }
def Ws.due (s : Ws) : List Tm := s.A.filter fun t => decide (t.due = s.now + 1)
def Ws.tick (s : Ws) : Ws := ⟨s.A.filter fun t => decide (t.due ≠ s.now + 1), s.now + 1, s.last⟩
/-- Numbers rise, none is above the last; all are due behind now, within reach. -/
structure Ws.ok (s : Ws) (N : Nat) : Prop where
  up : s.A.Pairwise fun a b => a.num < b.num
  num : ∀ t ∈ s.A, 1 ≤ t.num ∧ t.num ≤ s.last
  due : ∀ t ∈ s.A, s.now < t.due ∧ t.due ≤ s.now + 1099511627776
  now : 0 ≤ s.now ∧ s.now ≤ N
  last : 0 ≤ s.last ∧ s.last ≤ N
  len : s.A.length ≤ N
theorem Ws.ok.arm {s : Ws} {N : Nat} (h : s.ok N) (d k i : Int) : (s.arm d k i).ok (N + 1) := by
  have hd := delayF_in d
  refine ⟨?_, fun t ht => ?_, fun t ht => ?_, ⟨h.now.1, by have := h.now.2; show s.now ≤ _; omega⟩, ⟨by have := h.last.1; show 0 ≤ s.last + 1; omega, by have := h.last.2; show s.last + 1 ≤ _; omega⟩, by have := h.len; simp [Ws.arm]; omega⟩
  · show (s.A ++ [_]).Pairwise _
    rw [List.pairwise_append]
    refine ⟨h.up, by simp, fun a ha b hb => ?_⟩
    simp at hb; subst hb
    have := (h.num a ha).2
    show a.num < s.last + 1; omega
  · rcases List.mem_append.1 ht with ht | ht
    · have := h.num t ht; show 1 ≤ t.num ∧ t.num ≤ s.last + 1; omega
    · simp at ht; subst ht
      have := h.last.1; show 1 ≤ s.last + 1 ∧ s.last + 1 ≤ s.last + 1; omega
  · rcases List.mem_append.1 ht with ht | ht
    · exact h.due t ht
    · simp at ht; subst ht
      show s.now < s.now + delayF d ∧ s.now + delayF d ≤ s.now + 1099511627776; omega
theorem Ws.ok.mono {s : Ws} {N M : Nat} (h : s.ok N) (hm : N ≤ M) : s.ok M :=
  ⟨h.up, h.num, h.due, ⟨h.now.1, by have := h.now.2; omega⟩, ⟨h.last.1, by have := h.last.2; omega⟩, by have := h.len; omega⟩
theorem Ws.ok.cancel {s : Ws} {N : Nat} (h : s.ok N) (n : Int) : (s.cancel n).ok N :=
  ⟨h.up.filter _, fun t ht => h.num t ((List.mem_filter.1 ht).1), fun t ht => h.due t ((List.mem_filter.1 ht).1), h.now, h.last, Nat.le_trans (List.length_filter_le _ _) h.len⟩
theorem Ws.ok.tick {s : Ws} {N : Nat} (h : s.ok N) : s.tick.ok (N + 1) := by
  refine ⟨h.up.filter _, fun t ht => h.num t ((List.mem_filter.1 ht).1), fun t ht => ?_, ⟨by have := h.now.1; show 0 ≤ s.now + 1; omega, by have := h.now.2; show s.now + 1 ≤ _; omega⟩, ⟨h.last.1, by have := h.last.2; show s.last ≤ _; omega⟩, Nat.le_trans (List.length_filter_le _ _) (by have := h.len; omega)⟩
  obtain ⟨h1, h2⟩ := List.mem_filter.1 ht
  have := h.due t h1
  simp only [decide_eq_true_eq] at h2
  show s.now + 1 < t.due ∧ t.due ≤ s.now + 1 + 1099511627776
  omega

/-! ### Slots -/
def slotB (n : Nat) (k : Nat) (t : Tm) : Bool := decide (t.due.tmod (n : Int) = (k : Int))
def slotL (n : Nat) (A : List Tm) (k : Nat) : List Tm := if k < n then A.filter (slotB n k) else []
theorem tmod_in {x : Int} {n : Nat} (hx : 0 ≤ x) (hn : 0 < n) : ∃ k : Nat, k < n ∧ x.tmod (n : Int) = (k : Int) := by
  rw [Int.tmod_eq_emod_of_nonneg hx]
  have h1 := Int.emod_nonneg x (show (n : Int) ≠ 0 by omega)
  have h2 := Int.emod_lt_of_pos x (show (0 : Int) < n by omega)
  exact ⟨(x % n).toNat, by omega, by omega⟩
/-- What is armed goes behind all others of its slot. -/
theorem slot_arm {n : Nat} {A : List Tm} {t : Tm} {k : Nat} (j : Nat) (hk : t.due.tmod (n : Int) = (k : Int)) : slotL n (A ++ [t]) j = if j = k ∧ k < n then slotL n A k ++ [t] else slotL n A j := by
  unfold slotL
  by_cases hj : j < n
  · rw [if_pos hj, if_pos hj, List.filter_append]
    by_cases e : j = k
    · subst e
      rw [if_pos ⟨rfl, hj⟩, if_pos hj]
      simp [slotB, hk]
    · rw [if_neg (fun h => e h.1)]
      have : ¬ (k : Int) = (j : Int) := by omega
      simp [slotB, hk, this]
  · rw [if_neg hj, if_neg hj, if_neg (by omega)]
/-- A filter goes into the slots. -/
theorem slot_filter {n : Nat} {A : List Tm} {p : Tm → Bool} (j : Nat) : slotL n (A.filter p) j = (slotL n A j).filter p := by
  unfold slotL
  split
  · rw [List.filter_filter, List.filter_filter]
    congr 1
    funext t
    exact Bool.and_comm _ _
  · rfl
theorem filter_idle {A : List Tm} {p : Tm → Bool} (h : ∀ t ∈ A, p t = true) : A.filter p = A := List.filter_eq_self.2 h
theorem mem_slot {n : Nat} {A : List Tm} {k : Nat} {t : Tm} (h : t ∈ slotL n A k) : t ∈ A ∧ t.due.tmod (n : Int) = (k : Int) ∧ k < n := by
  unfold slotL at h
  split at h
  · obtain ⟨h1, h2⟩ := List.mem_filter.1 h
    exact ⟨h1, of_decide_eq_true h2, by assumption⟩
  · simp at h
/-- The timers of a tick lie in one slot. -/
theorem due_slot {n : Nat} {A : List Tm} {x : Int} {k : Nat} (hk : x.tmod (n : Int) = (k : Int)) (hkn : k < n) : (slotL n A k).filter (fun t => decide (t.due = x)) = A.filter fun t => decide (t.due = x) := by
  unfold slotL
  rw [if_pos hkn, List.filter_filter]
  apply List.filter_congr
  intro t _
  by_cases e : t.due = x
  · simp [slotB, e, hk]
  · simp [e]
theorem slot_tick {n : Nat} {A : List Tm} {x : Int} {k : Nat} (hk : x.tmod (n : Int) = (k : Int)) (j : Nat) (hj : j ≠ k) : slotL n (A.filter fun t => decide (t.due ≠ x)) j = slotL n A j := by
  rw [slot_filter]
  refine filter_idle fun t ht => ?_
  obtain ⟨_, h2, _⟩ := mem_slot ht
  rw [decide_eq_true_eq]
  intro e
  rw [e, hk] at h2
  exact hj (by omega)
/-- Where each timer lies. -/
def placeT (n : Nat) (A : List Tm) (x : Int) : Option Int := (A.find? fun t => decide (t.num = x)).map fun t => t.due.tmod (n : Int)
theorem find_append_last {A : List Tm} {t : Tm} {x : Int} (h : ∀ a ∈ A, a.num ≠ t.num) : (A ++ [t]).find? (fun a => decide (a.num = x)) = if t.num = x then some t else A.find? fun a => decide (a.num = x) := by
  rw [List.find?_append]
  by_cases e : t.num = x
  · rw [if_pos e]
    have : A.find? (fun a => decide (a.num = x)) = none := by
      rw [List.find?_eq_none]
      intro a ha
      simpa using e ▸ h a ha
    rw [this]
    simp [e]
  · rw [if_neg e]
    simp [e]
theorem find_unique {A : List Tm} (up : A.Pairwise fun a b => a.num < b.num) {t : Tm} (ht : t ∈ A) {x : Int} (hx : t.num = x) : A.find? (fun a => decide (a.num = x)) = some t := by
  induction A with
  | nil => simp at ht
  | cons a A ih =>
    rw [List.pairwise_cons] at up
    rw [List.find?_cons]
    rcases List.mem_cons.1 ht with rfl | ht
    · simp [hx]
    · have := up.1 t ht
      have hne : ¬ a.num = x := by omega
      simp only [hne, decide_false]
      exact ih up.2 ht
theorem find_filter_none {A : List Tm} (up : A.Pairwise fun a b => a.num < b.num) {p : Tm → Bool} {x : Int} : (A.filter p).find? (fun a => decide (a.num = x)) = match A.find? (fun a => decide (a.num = x)) with | some t => if p t then some t else none | none => none := by
  induction A with
  | nil => rfl
  | cons a A ih =>
    rw [List.pairwise_cons] at up
    by_cases e : a.num = x
    · have hrest : ∀ b ∈ A, ¬ b.num = x := fun b hb => by have := up.1 b hb; omega
      have hn : (A.filter p).find? (fun a => decide (a.num = x)) = none := by
        rw [List.find?_eq_none]
        intro b hb
        simpa using hrest b ((List.mem_filter.1 hb).1)
      rw [List.find?_cons]
      simp only [e, decide_true]
      by_cases hp : p a = true
      · rw [List.filter_cons_of_pos hp, List.find?_cons]
        simp [e, hp]
      · rw [List.filter_cons_of_neg hp, hn]
        simp [hp]
    · rw [List.find?_cons]
      simp only [e, decide_false]
      rw [← ih up.2]
      by_cases hp : p a = true
      · rw [List.filter_cons_of_pos hp, List.find?_cons]
        simp [e]
      · rw [List.filter_cons_of_neg hp]

/-! ### The list by due, then by number -/
def Tm.lt (a b : Tm) : Prop := a.due < b.due ∨ a.due = b.due ∧ a.num < b.num
/-- t goes behind all that are due no later. -/
def insT (t : Tm) : List Tm → List Tm
  | [] => [t]
  | a :: l => if t.due < a.due then t :: a :: l else a :: insT t l
def listT (A : List Tm) : List Tm := A.foldl (fun l t => insT t l) []
theorem insT_perm (t : Tm) : ∀ l, (insT t l).Perm (t :: l)
  | [] => List.Perm.refl _
  | a :: l => by
    rw [insT]
    split
    · exact List.Perm.refl _
    · exact ((insT_perm t l).cons a).trans (List.Perm.swap t a l)
theorem insT_sorted {t : Tm} : ∀ {l : List Tm}, l.Pairwise Tm.lt → (∀ a ∈ l, a.num < t.num) → (insT t l).Pairwise Tm.lt
  | [], _, _ => by simp [insT]
  | a :: l, h, hn => by
    rw [insT]
    rw [List.pairwise_cons] at h
    split
    · rename_i hlt
      rw [List.pairwise_cons]
      refine ⟨fun b hb => ?_, List.pairwise_cons.2 h⟩
      rcases List.mem_cons.1 hb with rfl | hb
      · exact .inl hlt
      · have := h.1 b hb
        unfold Tm.lt at *
        omega
    · rename_i hlt
      rw [List.pairwise_cons]
      refine ⟨fun b hb => ?_, insT_sorted h.2 fun x hx => hn x (by simp [hx])⟩
      rcases List.mem_cons.1 ((insT_perm t l).mem_iff.1 hb) with rfl | hb
      · have := hn a (by simp)
        unfold Tm.lt
        omega
      · exact h.1 b hb
theorem listT_ok {A : List Tm} (up : A.Pairwise fun a b => a.num < b.num) : (listT A).Perm A ∧ (listT A).Pairwise Tm.lt := by
  have key : ∀ (r l : List Tm), r.Pairwise (fun a b => a.num < b.num) → l.Pairwise Tm.lt → (∀ a ∈ l, ∀ b ∈ r, a.num < b.num) → (r.foldl (fun l t => insT t l) l).Perm (l ++ r) ∧ (r.foldl (fun l t => insT t l) l).Pairwise Tm.lt := by
    intro r
    induction r with
    | nil => intro l _ hl _; simpa using hl
    | cons t r ih =>
      intro l hr hl hlr
      rw [List.pairwise_cons] at hr
      rw [List.foldl_cons]
      have hp := insT_perm t l
      obtain ⟨h1, h2⟩ := ih (insT t l) hr.2 (insT_sorted hl fun a ha => hlr a ha t (by simp)) fun a ha b hb => by
        rcases List.mem_cons.1 (hp.mem_iff.1 ha) with rfl | ha
        · exact hr.1 b hb
        · exact hlr a ha b (by simp [hb])
      refine ⟨h1.trans ?_, h2⟩
      refine (hp.append_right r).trans ?_
      rw [List.cons_append]
      exact (List.perm_middle).symm
  have := key A [] up (by simp) (by simp)
  simpa [listT] using this
theorem lt_unique : ∀ {l m : List Tm}, l.Perm m → l.Pairwise Tm.lt → m.Pairwise Tm.lt → l = m
  | [], m, h, _, _ => by simpa using h.symm
  | a :: l, [], h, _, _ => by simp at h
  | a :: l, b :: m, h, hl, hm => by
    rw [List.pairwise_cons] at hl hm
    have e : a = b := by
      by_cases e : a = b
      · exact e
      have ha : a ∈ m := by
        rcases List.mem_cons.1 (h.mem_iff.1 (List.mem_cons_self (a := a) (l := l))) with h | h
        · exact absurd h e
        · exact h
      have hb : b ∈ l := by
        rcases List.mem_cons.1 (h.mem_iff.2 (List.mem_cons_self (a := b) (l := m))) with h | h
        · exact absurd h.symm e
        · exact h
      have h1 := hl.1 b hb
      have h2 := hm.1 a ha
      unfold Tm.lt at h1 h2
      omega
    subst e
    rw [lt_unique ((List.perm_cons a).1 h) hl.2 hm.2]
/-- The slots joined hold all timers. -/
theorem slots_perm {n : Nat} (hn : 0 < n) {A : List Tm} (hA : ∀ t ∈ A, 0 ≤ t.due) : ((List.range n).flatMap (slotL n A)).Perm A := by
  induction A with
  | nil =>
    have : (List.range n).flatMap (slotL n []) = [] := by
      rw [List.flatMap_eq_nil_iff]
      intro k _
      unfold slotL
      split <;> rfl
    rw [this]
  | cons t A ih =>
    have ih := ih fun x hx => hA x (by simp [hx])
    obtain ⟨k, hk, e⟩ := tmod_in (hA t (by simp)) hn
    have hs : ∀ j, slotL n (t :: A) j = if j = k then t :: slotL n A j else slotL n A j := by
      intro j
      unfold slotL
      by_cases hj : j < n
      · rw [if_pos hj, if_pos hj]
        by_cases e2 : j = k
        · subst e2
          rw [if_pos rfl, List.filter_cons_of_pos (by simp [slotB, e])]
        · rw [if_neg e2, List.filter_cons_of_neg (by simp only [slotB, e, decide_eq_true_eq]; omega)]
      · rw [if_neg hj, if_neg hj, if_neg (by omega)]
    refine List.Perm.trans ?_ (ih.cons t)
    have key : ∀ l : List Nat, l.Nodup → k ∈ l → (l.flatMap (slotL n (t :: A))).Perm (t :: l.flatMap (slotL n A)) := by
      intro l
      induction l with
      | nil => intro _ h; simp at h
      | cons j l ihl =>
        intro hnd hm
        rw [List.nodup_cons] at hnd
        rw [List.flatMap_cons, List.flatMap_cons, hs j]
        by_cases e2 : j = k
        · subst e2
          rw [if_pos rfl, List.cons_append]
          have : l.flatMap (slotL n (t :: A)) = l.flatMap (slotL n A) := by
            rw [List.flatMap_def, List.flatMap_def]
            congr 1
            apply List.map_congr_left
            intro i hi
            rw [hs i, if_neg (by intro h; rw [h] at hi; exact hnd.1 hi)]
          rw [this]
        · rw [if_neg e2]
          have hm' : k ∈ l := by
            rcases List.mem_cons.1 hm with h | h
            · exact absurd h.symm e2
            · exact h
          exact ((ihl hnd.2 hm').append_left _).trans List.perm_middle
    exact key _ List.nodup_range (List.mem_range.2 hk)
end Go.Proofs.Ytjmaddmklogchaa
