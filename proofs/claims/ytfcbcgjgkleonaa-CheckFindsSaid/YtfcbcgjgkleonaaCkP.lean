/- The plain law: sluiceref16's map against package atom's. -/
import Derived.Test.YtfcbcgjgkleonaaBnF
set_option maxRecDepth 100000
set_option linter.unusedSimpArgs false
set_option linter.unusedVariables false
set_option maxHeartbeats 4000000
namespace Go.Proofs.Ytfcbcgjgkleonaa
open Go.RowKit

/-! ### Sums of holds -/
def hsum (l : List (Int × Int)) : Int := (l.map (·.2)).sum
theorem hsum_cons (x : Int × Int) (l : List (Int × Int)) : hsum (x :: l) = x.2 + hsum l := by simp [hsum]
theorem hsum_append (l m : List (Int × Int)) : hsum (l ++ m) = hsum l + hsum m := by simp [hsum]
theorem hsum_nonneg {l : List (Int × Int)} (h : ∀ x ∈ l, 0 ≤ x.2) : 0 ≤ hsum l := by
  induction l with
  | nil => simp [hsum]
  | cons x l ih =>
    rw [hsum_cons]
    have := ih fun y hy => h y (by simp [hy])
    have := h x (by simp)
    omega
theorem hsum_mem {l : List (Int × Int)} (h : ∀ x ∈ l, 0 ≤ x.2) {x : Int × Int} (hx : x ∈ l) : x.2 ≤ hsum l := by
  induction l with
  | nil => simp at hx
  | cons y l ih =>
    rw [hsum_cons]
    have hn := hsum_nonneg (l := l) fun y hy => h y (by simp [hy])
    have hy := h y (by simp)
    rcases List.mem_cons.1 hx with rfl | hx
    · omega
    · have := ih (fun y hy => h y (by simp [hy])) hx
      omega
theorem heldW_eq {l : List (Int × Int)} (h : ∀ x ∈ l, 0 ≤ x.2) (hs : hsum l ≤ 1099511627776) : heldW l = hsum l := by
  have key : ∀ (l : List (Int × Int)) (a : Int), (∀ x ∈ l, 0 ≤ x.2) → 0 ≤ a → a + hsum l ≤ 1099511627776 → l.foldl heldStep a = a + hsum l := by
    intro l
    induction l with
    | nil => intro a _ _ _; simp [hsum]
    | cons x l ih =>
      intro a h h0 hs
      rw [hsum_cons] at hs ⊢
      have hn := hsum_nonneg (l := l) fun y hy => h y (by simp [hy])
      have hx := h x (by simp)
      have e : heldStep a x = a + x.2 := w64 (by omega) (by omega)
      rw [List.foldl_cons, e, ih _ (fun y hy => h y (by simp [hy])) (by omega) (by omega)]
      omega
  have := key l 0 h (by omega) (by omega)
  unfold heldW
  omega
theorem without_nonneg {l : List (Int × Int)} (h : ∀ x ∈ l, 0 ≤ x.2) (n : Int) : ∀ x ∈ withoutR l n, 0 ≤ x.2 := fun x hx => h x (List.mem_filter.1 hx).1
theorem without_cons (x : Int × Int) (l : List (Int × Int)) (n : Int) : withoutR (x :: l) n = if x.1 = n then withoutR l n else x :: withoutR l n := by
  unfold withoutR
  rw [List.filter_cons]
  by_cases h : x.1 = n <;> simp [h]
theorem without_none {l : List (Int × Int)} {n : Int} (h : n ∉ l.map (·.1)) : withoutR l n = l := by
  unfold withoutR
  rw [List.filter_eq_self]
  intro x hx
  simp only [decide_eq_true_eq]
  intro e
  exact h (List.mem_map.2 ⟨x, hx, e⟩)
theorem amount_none {l : List (Int × Int)} {n : Int} (h : n ∉ l.map (·.1)) : amountR l n = 0 := by
  induction l with
  | nil => rfl
  | cons x l ih =>
    simp only [List.map_cons, List.mem_cons, not_or] at h
    rw [amountR, if_neg fun e => h.1 e.symm, ih h.2]
theorem without_sum {l : List (Int × Int)} (nd : (l.map (·.1)).Nodup) (n : Int) : hsum (withoutR l n) = hsum l - amountR l n := by
  induction l with
  | nil => simp [withoutR, hsum, amountR]
  | cons x l ih =>
    simp only [List.map_cons, List.nodup_cons] at nd
    rw [without_cons, amountR, hsum_cons]
    by_cases h : x.1 = n
    · rw [if_pos h, if_pos h, without_none (by rw [← h]; exact nd.1)]
      omega
    · rw [if_neg h, if_neg h, hsum_cons, ih nd.2]
      omega
theorem amount_without (l : List (Int × Int)) (n m : Int) : amountR (withoutR l n) m = if m = n then 0 else amountR l m := by
  induction l with
  | nil => simp [withoutR, amountR]
  | cons x l ih =>
    rw [without_cons]
    by_cases h : x.1 = n
    · rw [if_pos h, ih, amountR]
      by_cases hm : m = n
      · rw [if_pos hm, if_pos hm]
      · rw [if_neg hm, if_neg hm, if_neg (by omega)]
    · rw [if_neg h, amountR, amountR, ih]
      by_cases hm : m = n
      · rw [if_pos hm, if_pos hm, if_neg (by omega)]
      · rw [if_neg hm, if_neg hm]
theorem amount_append (l : List (Int × Int)) (x : Int × Int) (h : x.1 ∉ l.map (·.1)) (m : Int) : amountR (l ++ [x]) m = if m = x.1 then x.2 else amountR l m := by
  induction l with
  | nil => simp only [List.nil_append, amountR, eq_comm]
  | cons y l ih =>
    simp only [List.map_cons, List.mem_cons, not_or] at h
    rw [List.cons_append, amountR, amountR, ih h.2]
    by_cases e : y.1 = m
    · rw [if_pos e, if_pos e, if_neg (by omega)]
    · rw [if_neg e, if_neg e]

/-! ### Counters that are right -/
structure Rk.ok (c : Rk) : Prop where
  v0 : 0 ≤ c.v
  pos : ∀ x ∈ c.holds, 0 ≤ x.2
  sum : c.v + hsum c.holds ≤ c.cap
  cap : c.cap ≤ 1099511627776
  nd : (c.holds.map (·.1)).Nodup
  sub : ∀ x ∈ c.holds, x.1 ∈ c.used
theorem Rk.ok.held {c : Rk} (ok : c.ok) : heldW c.holds = hsum c.holds := heldW_eq ok.pos (by have := ok.v0; have := ok.sum; have := ok.cap; omega)
theorem Rk.ok.in_ {c : Rk} (ok : c.ok) : c.in_ := by
  have h0 := hsum_nonneg ok.pos
  obtain ⟨v0, pos, sum, cap, _, _⟩ := ok
  exact ⟨⟨v0, by omega⟩, by rw [heldW_eq pos (by omega)]; omega, fun x hx => ⟨pos x hx, by have := hsum_mem pos hx; omega⟩⟩
theorem doneF_nm (c : Rk) (k a b h : Int) : (doneF c k a b h).1.nm = c.nm := by
  unfold doneF
  repeat' split
  all_goals rfl
theorem doneF_len (c : Rk) (k a b h : Int) : (doneF c k a b h).1.holds.length ≤ c.holds.length + 1 ∧ (doneF c k a b h).1.used.length ≤ c.used.length + 1 := by
  unfold doneF
  repeat' split
  all_goals (dsimp only; try simp only [withR, List.length_append, List.length_cons, List.length_nil])
  all_goals (first | omega | (have := withoutR_len c.holds h; omega) | (have := withoutR_len c.holds a; omega))
theorem nd_without {l : List (Int × Int)} (nd : (l.map (·.1)).Nodup) (n : Int) : ((withoutR l n).map (·.1)).Nodup := nd.sublist (List.Sublist.map _ List.filter_sublist)
theorem doneF_ok {c : Rk} (ok : c.ok) {k a b h : Int} {nm : ByteArray} (hr : rightB k nm a b = true) : (doneF c k a b h).1.ok := by
  obtain ⟨r1, r2, r8, r9, r7, rk⟩ := right_nums hr
  have hh := ok.held
  have hn := hsum_nonneg ok.pos
  have hwn : ∀ n, 0 ≤ hsum (withoutR c.holds n) := fun n => hsum_nonneg (without_nonneg ok.pos n)
  have ok' := ok
  obtain ⟨v0, pos, sum, cap, nd, sub⟩ := ok
  unfold doneF
  rw [hh]
  by_cases k2 : k = 2
  · rw [if_pos k2]
    have := r2 (by omega)
    split
    · exact ok'
    · exact ⟨by dsimp only; omega, pos, by dsimp only; omega, cap, nd, sub⟩
  rw [if_neg k2]
  by_cases k3 : k = 3
  · rw [if_pos k3]
    have := r2 (by omega)
    split
    · exact ok'
    · exact ⟨by dsimp only; omega, pos, by dsimp only; omega, cap, nd, sub⟩
  rw [if_neg k3]
  by_cases k4 : k = 4
  · rw [if_pos k4]
    have ha := r2 (by omega)
    split
    · exact ok'
    · split
      · exact ok'
      · split
        · exact ok'
        · rename_i hu
          have hni : h ∉ c.holds.map (·.1) := fun hin => by
            obtain ⟨x, hx, rfl⟩ := List.mem_map.1 hin
            exact hu (by simpa [usedR] using sub x hx)
          have hw : withR c.holds (h, a) = c.holds ++ [(h, a)] := by unfold withR; rw [without_none hni]
          refine ⟨by dsimp only; omega, ?_, ?_, cap, ?_, ?_⟩
          · dsimp only; rw [hw]
            intro x hx
            rcases List.mem_append.1 hx with hx | hx
            · exact pos x hx
            · simp at hx; subst hx; dsimp only; omega
          · dsimp only; rw [hw, hsum_append]
            have : hsum [(h, a)] = a := by simp [hsum]
            omega
          · dsimp only; rw [hw, List.map_append]
            rw [List.nodup_append]
            refine ⟨nd, by simp, ?_⟩
            intro x hx y hy
            simp at hy; subst hy
            intro e; subst e; exact hni hx
          · dsimp only; rw [hw]
            intro x hx
            rcases List.mem_append.1 hx with hx | hx
            · exact List.mem_append_left _ (sub x hx)
            · simp at hx; subst hx; simp
  rw [if_neg k4]
  by_cases k5 : k = 5 ∨ k = 6 ∨ k = 12
  · rw [if_pos k5]
    split
    · exact ok'
    · have hs := without_sum nd a
      have h1 := hwn a
      have h2 : 0 ≤ amountR c.holds a := (amountR_in (l := c.holds) (fun x hx => ⟨pos x hx, by have := hsum_mem pos hx; omega⟩) a).1
      refine ⟨?_, without_nonneg pos a, ?_, cap, nd_without nd a, fun x hx => sub x (List.mem_filter.1 hx).1⟩
      · dsimp only; split <;> omega
      · dsimp only; split <;> omega
  rw [if_neg k5]
  by_cases k7 : k = 7
  · rw [if_pos k7]; exact ok'
  rw [if_neg k7]
  by_cases k8 : k = 8
  · rw [if_pos k8]
    have := r8 k8
    split
    · exact ok'
    · split
      · exact ok'
      · exact ⟨by dsimp only; omega, pos, by dsimp only; omega, cap, nd, sub⟩
  rw [if_neg k8]
  by_cases k9 : k = 9
  · rw [if_pos k9]
    have := r9 k9
    split
    · exact ok'
    · exact ⟨by dsimp only; omega, pos, by dsimp only; omega, cap, nd, sub⟩
  rw [if_neg k9]
  split
  · exact ok'
  · have k10 : k ≠ 1 → k = 10 := fun _ => by omega
    by_cases k1 : k = 1
    · have := r1 k1
      exact ⟨v0, pos, by dsimp only; omega, by dsimp only; omega, nd, sub⟩
    · have := r2 (by omega)
      exact ⟨v0, pos, by dsimp only; omega, by dsimp only; omega, nd, sub⟩
end Go.Proofs.Ytfcbcgjgkleonaa
