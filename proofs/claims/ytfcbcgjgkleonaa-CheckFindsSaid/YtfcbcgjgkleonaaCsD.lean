/- Chapter 17's law, plain: Search as the document has it; orders. -/
import Derived.Test.YtfcbcgjgkleonaaCsC
import Derived.Test.YtfcbcgjgkleonaaCkV
set_option linter.unusedSimpArgs false
set_option linter.unusedVariables false
set_option maxRecDepth 100000
namespace Go.Proofs.Ytfcbcgjgkleonaa
open Go.RowKit

/-! ### Numbers -/
theorem named_iff {L : List Pa} {n : Int} : namedP L n ↔ namedB9 L n = true := by
  unfold namedP namedB9
  rw [List.any_eq_true]
  constructor
  · rintro ⟨j, hj, h⟩
    refine ⟨L[j], List.getElem_mem hj, ?_⟩
    have e : pAt L j = L[j] := by simp [pAt, List.getD, hj]
    rw [e] at h
    simp only [namesB, Bool.or_eq_true, Bool.and_eq_true, decide_eq_true_eq]; exact h
  · rintro ⟨p, hp, h⟩
    obtain ⟨j, hj, rfl⟩ := List.getElem_of_mem hp
    have e : pAt L j = L[j] := by simp [pAt, List.getD, hj]
    simp only [namesB, Bool.or_eq_true, Bool.and_eq_true, decide_eq_true_eq] at h
    exact ⟨j, hj, by rw [e]; exact h⟩
theorem skipF_free (L : List Pa) : ∀ f n, cntGe L n ≤ f → namedB9 L (skipF L f n) = false
  | 0, n, h => by
    rw [skipF]
    cases hn : namedB9 L n with
    | false => rfl
    | true => have := cntGe_lt hn; omega
  | f + 1, n, h => by
    rw [skipF]
    split
    · rename_i hn
      have := cntGe_lt hn
      exact skipF_free L f (n + 1) (by omega)
    · rename_i hn; simpa using hn
theorem getD_append {l : List Int} {x : Int} {i : Nat} (hl : l.length = i) (j : Nat) : (l ++ [x]).getD j 0 = if j < i then l.getD j 0 else if j = i then x else 0 := by
  simp only [List.getD]
  by_cases h : j < i
  · rw [if_pos h, List.getElem?_append_left (by omega)]
  · rw [if_neg h, List.getElem?_append_right (by omega)]
    by_cases e : j = i
    · subst e; simp [hl]
    · rw [if_neg e, List.getElem?_eq_none (by simp; omega)]; rfl
theorem holdsT_vn (L : List Pa) : ∀ i, i ≤ L.length → (holdsT L i).1.length = i ∧ 1 ≤ (holdsT L i).2 ∧ ∀ j, j < i → (sortF (pAt L j) = 2 → (holdsT L i).1.getD j 0 = (pAt L j).va) ∧
    (sortF (pAt L j) ≠ 2 → 1 ≤ (holdsT L i).1.getD j 0 ∧ namedB9 L ((holdsT L i).1.getD j 0) = false ∧ (holdsT L i).1.getD j 0 < (holdsT L i).2 ∧ ∀ k, k < j → sortF (pAt L k) ≠ 2 → (holdsT L i).1.getD k 0 < (holdsT L i).1.getD j 0)
  | 0, _ => by simp [holdsT]
  | i + 1, hi => by
    obtain ⟨h1, h2, h3⟩ := holdsT_vn L i (by omega)
    have hx : L[i]? = some L[i] := List.getElem?_eq_getElem _
    have e : pAt L i = L[i] := by simp [pAt, List.getD, hx]
    rw [holdsT_next hx, ← e]
    have hs := skipF_le L (L.length + 1) (holdsT L i).2
    have hf := skipF_free L (L.length + 1) (holdsT L i).2 (by have := cntGe_le L (holdsT L i).2; omega)
    unfold holdStep
    by_cases s2 : sortF (pAt L i) = 2
    · rw [if_pos s2]
      refine ⟨by simp [h1], by dsimp only; omega, fun j hj => ?_⟩
      dsimp only
      simp only [getD_append h1]
      by_cases hji : j < i
      · obtain ⟨g1, g2⟩ := h3 j hji
        rw [if_pos hji]
        refine ⟨g1, fun hn => ?_⟩
        obtain ⟨q1, q2, q3, q4⟩ := g2 hn
        refine ⟨q1, q2, by omega, fun k hk hkn => ?_⟩
        rw [if_pos (by omega)]
        exact q4 k hk hkn
      · obtain rfl : j = i := by omega
        rw [if_neg (by omega), if_pos rfl]
        exact ⟨fun _ => rfl, fun h => absurd s2 h⟩
    · rw [if_neg s2]
      refine ⟨by simp [h1], by dsimp only; omega, fun j hj => ?_⟩
      dsimp only
      simp only [getD_append h1]
      by_cases hji : j < i
      · obtain ⟨g1, g2⟩ := h3 j hji
        rw [if_pos hji]
        refine ⟨g1, fun hn => ?_⟩
        obtain ⟨q1, q2, q3, q4⟩ := g2 hn
        refine ⟨q1, q2, by omega, fun k hk hkn => ?_⟩
        rw [if_pos (by omega)]
        exact q4 k hk hkn
      · obtain rfl : j = i := by omega
        rw [if_neg (by omega), if_pos rfl]
        refine ⟨fun h => absurd h s2, fun _ => ⟨by omega, hf, by omega, fun k hk hkn => ?_⟩⟩
        rw [if_pos hk]
        have := ((h3 k hk).2 hkn).2.2.1
        omega
theorem vn_holds (L : List Pa) : Vn L (numH (srchOf L)) := by
  obtain ⟨_, _, h⟩ := holdsT_vn L L.length (Nat.le_refl _)
  refine ⟨fun j hj hs => (h j hj).1 hs, fun j hj hs => ((h j hj).2 hs).1, fun j hj hs hn => ?_, fun j hj hs i hi hsi hne e => ?_⟩
  · have := ((h j hj).2 hs).2.1
    rw [named_iff] at hn
    rw [this] at hn; cases hn
  · rcases Nat.lt_or_gt_of_ne hne with h1 | h1
    · have := ((h j hj).2 hs).2.2.2 i h1 hsi; dsimp only [numH] at e; omega
    · have := ((h i hi).2 hsi).2.2.2 j h1 hs; dsimp only [numH] at e; omega
/-- The document's numbers. -/
def numU (L : List Pa) : Nat → Int → Nat → Int
  | 0, n, _ => n
  | f + 1, n, i => if namedB9 L n = true then numU L f (n + 1) i else if i = 0 then n else numU L f (n + 1) (i - 1)
def numF (L : List Pa) (i : Nat) : Int := numU L (i + L.length + 1) 1 i
theorem cntGe_mono (L : List Pa) (n : Int) : cntGe L (n + 1) ≤ cntGe L n := by
  unfold cntGe
  refine List.countP_mono_left fun p _ h => ?_
  simp only [geB, Bool.or_eq_true, Bool.and_eq_true, decide_eq_true_eq] at h ⊢
  omega
theorem numU_free (L : List Pa) : ∀ f n i, cntGe L n + i < f → n ≤ numU L f n i ∧ numU L f n i < n + f ∧ namedB9 L (numU L f n i) = false
  | 0, n, i, h => by omega
  | f + 1, n, i, h => by
    rw [numU]
    split
    · rename_i hn
      have := cntGe_lt hn
      obtain ⟨h1, h2, h3⟩ := numU_free L f (n + 1) i (by omega)
      exact ⟨by omega, by omega, h3⟩
    · rename_i hn
      split
      · exact ⟨by omega, by omega, by simpa using hn⟩
      · have := cntGe_mono L n
        obtain ⟨h1, h2, h3⟩ := numU_free L f (n + 1) (i - 1) (by omega)
        exact ⟨by omega, by omega, h3⟩
theorem numU_lt (L : List Pa) : ∀ f f' n i, cntGe L n + i < f → cntGe L n + (i + 1) < f' → numU L f n i < numU L f' n (i + 1)
  | 0, _, n, i, h, _ => by omega
  | f + 1, 0, n, i, _, h => by omega
  | f + 1, f' + 1, n, i, h, h' => by
    rw [numU, numU]
    by_cases hn : namedB9 L n = true
    · have := cntGe_lt hn
      rw [if_pos hn, if_pos hn]
      exact numU_lt L f f' (n + 1) i (by omega) (by omega)
    · have := cntGe_mono L n
      rw [if_neg hn, if_neg hn]
      by_cases hi : i = 0
      · rw [if_pos hi, if_neg (show ¬ i + 1 = 0 by omega)]
        have := (numU_free L f' (n + 1) (i + 1 - 1) (by omega)).1
        omega
      · rw [if_neg hi, if_neg (show ¬ i + 1 = 0 by omega), show i + 1 - 1 = (i - 1) + 1 by omega]
        exact numU_lt L f f' (n + 1) (i - 1) (by omega) (by omega)
theorem numF_lt (L : List Pa) {i j : Nat} (h : i < j) : numF L i < numF L j := by
  have step : ∀ i, numF L i < numF L (i + 1) := fun i => numU_lt L _ _ 1 i (by have := cntGe_le L 1; omega) (by have := cntGe_le L 1; omega)
  induction j with
  | zero => omega
  | succ j ih =>
    rcases Nat.lt_or_ge i j with h1 | h1
    · have := ih h1; have := step j; omega
    · obtain rfl : i = j := by omega
      exact step i
theorem numF_in (L : List Pa) (i : Nat) : 1 ≤ numF L i ∧ numF L i ≤ i + L.length + 1 ∧ namedB9 L (numF L i) = false := by
  obtain ⟨h1, h2, h3⟩ := numU_free L (i + L.length + 1) 1 i (by have := cntGe_le L 1; omega)
  exact ⟨h1, by unfold numF; omega, h3⟩
def numR (L : List Pa) (i : Nat) : Int := if sortF (pAt L i) = 2 then (pAt L i).va else numF L i
theorem vn_ref (L : List Pa) : Vn L (numR L) := by
  refine ⟨fun j hj hs => by unfold numR; rw [if_pos hs], fun j hj hs => by unfold numR; rw [if_neg hs]; exact (numF_in L j).1, fun j hj hs hn => ?_, fun j hj hs i hi hsi hne e => ?_⟩
  · unfold numR at hn
    rw [if_neg hs, named_iff, (numF_in L j).2.2] at hn; cases hn
  · unfold numR at e
    rw [if_neg hs, if_neg hsi] at e
    rcases Nat.lt_or_gt_of_ne hne with h1 | h1
    · have := numF_lt L h1; omega
    · have := numF_lt L h1; omega

/-! ### Search -/
def doRN (L : List Pa) (ν : Nat → Int) (l : List Rk) (i : Nat) : List Rk × Int × Int := doR l (pAt L i).k (pAt L i).nm (pAt L i).a (pAt L i).b (ν i)
def restT (rec : Nat → List Rk → Option (List Nat)) (S : Srch) (ν : Nat → Int) (st : Nat) (l : List Rk) : List Nat → Option (List Nat)
  | [] => none
  | i :: r => if candF S st i = false then restT rec S ν st l r else if badF S i ([], (doRN S.L ν l i).2) = true then restT rec S ν st l r else
    match rec (st ||| 2 ^ i) (doRN S.L ν l i).1 with
    | some x => some (i :: x)
    | none => restT rec S ν st l r
def restF (S : Srch) (ν : Nat → Int) : Nat → Nat → List Rk → Option (List Nat)
  | 0, _, _ => none
  | n + 1, st, l => if leftF S st = false then some [] else restT (restF S ν n) S ν st l (List.range S.n)
theorem rest_plain {S : Srch} {ν : Nat → Int} : ∀ (n st : Nat) (A : All) (l : List Rk), RelM A l → restF S ν n st l = plainF S ν n st A
  | 0, _, _, _, _ => rfl
  | n + 1, st, A, l, R => by
    rw [restF, plainF]
    split
    · rfl
    have key : ∀ r : List Nat, restT (restF S ν n) S ν st l r = plainT (plainF S ν n) S ν st A r := by
      intro r
      induction r with
      | nil => rfl
      | cons i r ih =>
        rw [restT, plainT, ih]
        obtain ⟨h1, h2⟩ := doR_rel R (pAt S.L i).k (pAt S.L i).nm (pAt S.L i).a (pAt S.L i).b (ν i)
        have e : badF S i ([], (doRN S.L ν l i).2) = badF S i (doN S.L ν A i) := by
          unfold doRN doN; rw [← h1]; rfl
        rw [e, rest_plain n (st ||| 2 ^ i) (doN S.L ν A i).1 (doRN S.L ν l i).1 h2]
        cases plainF S ν n (st ||| 2 ^ i) (doN S.L ν A i).1 <;> rfl
    exact key _
theorem namesF_all (L : List Pa) : ∀ j, j < L.length → (pAt L j).nm ∈ namesF L := by
  have key : ∀ (l : List Pa) (a : List ByteArray), (∀ x ∈ a, x ∈ l.foldl nmStep a) ∧ ∀ p ∈ l, p.nm ∈ l.foldl nmStep a := by
    intro l
    induction l with
    | nil => intro a; exact ⟨fun x h => h, fun p h => by simp at h⟩
    | cons q l ih =>
      intro a
      have hin : ∀ x ∈ a, x ∈ nmStep a q := fun x hx => by
        unfold nmStep; split
        · exact hx
        · exact List.mem_append_left _ hx
      have hq : q.nm ∈ nmStep a q := by
        unfold nmStep; split
        · rename_i h
          obtain ⟨y, hy, e⟩ := List.any_eq_true.1 h
          rw [← of_decide_eq_true e]; exact hy
        · simp
      obtain ⟨h1, h2⟩ := ih (nmStep a q)
      refine ⟨fun x hx => h1 x (hin x hx), fun p hp => ?_⟩
      rcases List.mem_cons.1 hp with rfl | hp
      · exact h1 _ hq
      · exact h2 p hp
  intro j hj
  have e : pAt L j = L[j] := by simp [pAt, List.getD, hj]
  rw [e]
  exact (key L []).2 _ (List.getElem_mem hj)
theorem right_k {L : List Pa} (h : rightH L = true) : ∀ j, j < L.length → (pAt L j).k ≠ 12 := by
  intro j hj
  have e : pAt L j = L[j] := by simp [pAt, List.getD, hj]
  have hx : L[j]? = some L[j] := List.getElem?_eq_getElem hj
  have := (rightH_at h hx).1
  unfold okP at this
  rw [decide_eq_true_eq] at this
  rw [e]; omega
theorem search_rest {L : List Pa} (hr : rightH L = true) (hN : L.length ≤ 12) : (srchR L).1 = restF (srchOf L) (numR L) 13 0 [] := by
  have k12 := right_k hr
  have hu : unset (srchOf L) 0 < 13 := by
    have : unset (srchOf L) 0 ≤ (List.range (srchOf L).n).length := List.countP_le_length
    have h2 : (srchOf L).n = L.length := rfl
    rw [List.length_range, h2] at this; omega
  have h1 := (from_plain (S := srchOf L) (by have := namesF_len L; show (namesF L).length ≤ 12; omega) (namesF_all L) (vn_holds L) k12 13 0 [] [] (KS.nil _ _) hu fun st A n _ _ h => by simp [mget] at h).1
  rw [srchR, h1, rest_plain 13 0 [] [] RelM.nil]
  exact plain_eq (vn_holds L) (vn_ref L) k12 13 0 [] [] (KS.nil _ _) (KS.nil _ _) fun _ => rfl

/-! ### Orders -/
def ordG (S : Srch) (ν : Nat → Int) : List Int → Nat → List Rk → Bool
  | [], st, _ => !leftF S st
  | x :: r, st, l => if x < 0 ∨ (S.n : Int) ≤ x ∨ st.testBit x.toNat = true ∨ earlyF S st x.toNat = false then false else
    if sortF (S.p x.toNat) = 2 then (if badF S x.toNat ([], (doRN S.L ν l x.toNat).2) = true then false else ordG S ν r (st ||| 2 ^ x.toNat) (doRN S.L ν l x.toNat).1)
    else if sortF (S.p x.toNat) = 1 ∧ openF (S.p x.toNat) = true then (if (doRN S.L ν l x.toNat).2.2 ≠ 0 ∨ r = [] then false else ordG S ν r (st ||| 2 ^ x.toNat) (doRN S.L ν l x.toNat).1)
    else false
theorem left_add {S : Srch} {st i : Nat} (h : sortF (S.p i) ≠ 2) : leftF S (st ||| 2 ^ i) = leftF S st := by
  unfold leftF
  congr 1
  funext k
  by_cases e : k = i
  · subst e; rw [decide_eq_false h]; rfl
  · have : (st ||| 2 ^ i).testBit k = st.testBit k := by
      rw [Nat.testBit_or, Nat.testBit_two_pow_of_ne fun h => e h.symm, Bool.or_false]
    rw [this]
theorem rest_order {S : Srch} {ν : Nat → Int} : ∀ (n st : Nat) (l : List Rk) (x : List Nat), restF S ν n st l = some x → ordG S ν (x.map fun i : Nat => (i : Int)) st l = true
  | 0, _, _, _, h => by cases h
  | n + 1, st, l, x, h => by
    rw [restF] at h
    split at h
    · rename_i hl
      injection h with h; subst h
      simp [ordG, hl]
    rename_i hl
    have key : ∀ r : List Nat, (∀ i ∈ r, i < S.n) → restT (restF S ν n) S ν st l r = some x → ordG S ν (x.map fun i : Nat => (i : Int)) st l = true := by
      intro r
      induction r with
      | nil => intro _ h; cases h
      | cons i r ih =>
        intro hr h
        have hi := hr i (by simp)
        have ih := ih fun j hj => hr j (by simp [hj])
        rw [restT] at h
        by_cases hc : candF S st i = false
        · rw [if_pos hc] at h; exact ih h
        rw [if_neg hc] at h
        by_cases hd : badF S i ([], (doRN S.L ν l i).2) = true
        · rw [if_pos hd] at h; exact ih h
        rw [if_neg hd] at h
        split at h
        · rename_i y hy
          injection h with h; subst h
          have hrec := rest_order n (st ||| 2 ^ i) _ y hy
          have hc' : candF S st i = true := by simpa using hc
          unfold candF at hc'
          simp only [Bool.and_eq_true, Bool.not_eq_true', Bool.or_eq_false_iff, decide_eq_false_iff_not, Bool.and_eq_false_iff] at hc'
          obtain ⟨⟨⟨c1, c2⟩, c3⟩, c4⟩ := hc'
          rw [List.map_cons, ordG]
          rw [if_neg (by rw [Int.toNat_natCast, c1, c4]; simp; omega)]
          rw [Int.toNat_natCast]
          by_cases s2 : sortF (S.p i) = 2
          · rw [if_pos s2, if_neg hd]; exact hrec
          · rw [if_neg s2]
            have s1 : sortF (S.p i) = 1 := by have := sort_3 (S.p i); omega
            have c3' : openF (S.p i) = true := by
              rcases c3 with c | c
              · exact absurd s1 c
              · simpa using c
            rw [if_pos ⟨s1, c3'⟩]
            have hd' : badF S i ([], (doRN S.L ν l i).2) = false := by simpa using hd
            unfold badF at hd'
            simp only [Bool.or_eq_false_iff, Bool.and_eq_false_iff, decide_eq_false_iff_not, ne_eq, Decidable.not_not] at hd'
            have e0 := hd'.2.resolve_left fun h => h s1
            rw [if_neg (by
              rintro (h1 | h1)
              · exact h1 e0
              · have : y = [] := by simpa using h1
                subst this
                simp only [List.map_nil, ordG] at hrec
                rw [left_add s2] at hrec
                simp at hrec; exact hl hrec)]
            exact hrec
        · exact ih h
    exact key _ (fun i hi => List.mem_range.1 hi) h
end Go.Proofs.Ytfcbcgjgkleonaa
