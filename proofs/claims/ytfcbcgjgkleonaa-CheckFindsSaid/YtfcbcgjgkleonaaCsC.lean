/- Chapter 17's law, plain: what has been tried in vain may be passed by: from is a search without a memory. -/
import Derived.Test.YtfcbcgjgkleonaaBnK
set_option linter.unusedSimpArgs false
set_option linter.unusedVariables false
set_option maxRecDepth 100000
namespace Go.Proofs.Ytfcbcgjgkleonaa
open Go.RowKit

theorem sort_3 (p : Pa) : sortF p = 0 ∨ sortF p = 1 ∨ sortF p = 2 := by
  unfold sortF
  repeat' split
  all_goals simp
def plainT (rec : Nat → All → Option (List Nat)) (S : Srch) (ν : Nat → Int) (st : Nat) (A : All) : List Nat → Option (List Nat)
  | [] => none
  | i :: r => if candF S st i = false then plainT rec S ν st A r else if badF S i (doN S.L ν A i) = true then plainT rec S ν st A r else
    match rec (st ||| 2 ^ i) (doN S.L ν A i).1 with
    | some l => some (i :: l)
    | none => plainT rec S ν st A r
def plainF (S : Srch) (ν : Nat → Int) : Nat → Nat → All → Option (List Nat)
  | 0, _, _ => none
  | n + 1, st, A => if leftF S st = false then some [] else plainT (plainF S ν n) S ν st A (List.range S.n)

section
variable {S : Srch} {ν ν' : Nat → Int}
theorem cand_bit {st i : Nat} (h : ¬ candF S st i = false) : st.testBit i = false ∧ (sortF (pAt S.L i) = 2 ∨ sortF (pAt S.L i) = 1) := by
  have h' : candF S st i = true := by simpa using h
  unfold candF at h'
  simp only [Bool.and_eq_true, Bool.not_eq_true', Bool.or_eq_false_iff, decide_eq_false_iff_not] at h'
  obtain ⟨⟨⟨h1, h2⟩, _⟩, _⟩ := h'
  have := sort_3 (S.p i)
  exact ⟨h1, by rcases this with h | h | h; exact absurd h h2; exact .inr h; exact .inl h⟩
theorem bad_like {i : Nat} {D D' : All × Int × Int} (h1 : D.2.2 = D'.2.2) (h2 : sortF (pAt S.L i) = 2 → D.2.1 = D'.2.1) : badF S i D = badF S i D' := by
  unfold badF
  rw [h1]
  by_cases h : sortF (S.p i) = 2
  · rw [h2 h]
  · simp only [decide_eq_false h, Bool.false_and]
theorem good_of {i : Nat} {D : All × Int × Int} (h : ¬ badF S i D = true) : (sortF (pAt S.L i) = 2 → D.2.2 = (pAt S.L i).er ∧ D.2.1 = (pAt S.L i).va) ∧ (sortF (pAt S.L i) = 1 → D.2.2 = 0) := by
  have h' : badF S i D = false := by simpa using h
  unfold badF at h'
  simp only [Bool.or_eq_false_iff, Bool.and_eq_false_iff, decide_eq_false_iff_not, ne_eq, Decidable.not_not] at h'
  exact ⟨fun e => h'.1.resolve_left fun h => h e, fun e => h'.2.resolve_left fun h => h e⟩
theorem plain_eq (V : Vn S.L ν) (V' : Vn S.L ν') (k12 : ∀ j, j < S.L.length → (pAt S.L j).k ≠ 12) : ∀ (n st : Nat) (A A' : All), KS S.L ν st A → KS S.L ν' st A' → Ag A A' → plainF S ν n st A = plainF S ν' n st A'
  | 0, _, _, _, _, _, _ => rfl
  | n + 1, st, A, A', K, K', hA => by
    rw [plainF, plainF]
    split
    · rfl
    have key : ∀ r : List Nat, (∀ i ∈ r, i < S.L.length) → plainT (plainF S ν n) S ν st A r = plainT (plainF S ν' n) S ν' st A' r := by
      intro r
      induction r with
      | nil => intro _; rfl
      | cons i r ih =>
        intro hr
        have hi := hr i (by simp)
        have ih := ih fun j hj => hr j (by simp [hj])
        rw [plainT, plainT]
        by_cases hc : candF S st i = false
        · rw [if_pos hc, if_pos hc]; exact ih
        rw [if_neg hc, if_neg hc]
        obtain ⟨hb, hs⟩ := cand_bit hc
        obtain ⟨r1, r2, r3⟩ := step_res V V' K K' hA hi hb (k12 i hi) hs
        rw [bad_like (D := doN S.L ν A i) (D' := doN S.L ν' A' i) r1 r2]
        by_cases hd : badF S i (doN S.L ν' A' i) = true
        · rw [if_pos hd, if_pos hd]; exact ih
        rw [if_neg hd, if_neg hd]
        obtain ⟨g2, g1⟩ := good_of hd
        have hn := plain_eq V V' k12 n (st ||| 2 ^ i) _ _ (K.next hi (k12 i hi) hs (fun h => r1.trans (g2 h).1) fun h => r1.trans (g1 h)) (K'.next hi (k12 i hi) hs (fun h => (g2 h).1) g1) r3
        rw [hn]
        cases plainF S ν' n (st ||| 2 ^ i) (doN S.L ν' A' i).1 with
        | some l => rfl
        | none => exact ih
    exact key _ fun i hi => List.mem_range.1 hi
theorem plain_fuel : ∀ (n m st : Nat) (A : All), unset S st < n → unset S st < m → plainF S ν n st A = plainF S ν m st A
  | 0, _, _, _, h, _ => by omega
  | n + 1, 0, _, _, _, h => by omega
  | n + 1, m + 1, st, A, hn, hm => by
    rw [plainF, plainF]
    split
    · rfl
    have key : ∀ r : List Nat, (∀ i ∈ r, i < S.n) → plainT (plainF S ν n) S ν st A r = plainT (plainF S ν m) S ν st A r := by
      intro r
      induction r with
      | nil => intro _; rfl
      | cons i r ih =>
        intro hr
        have hi := hr i (by simp)
        have ih := ih fun j hj => hr j (by simp [hj])
        rw [plainT, plainT]
        by_cases hc : candF S st i = false
        · rw [if_pos hc, if_pos hc]; exact ih
        rw [if_neg hc, if_neg hc]
        obtain ⟨hb, hs⟩ := cand_bit hc
        by_cases hd : badF S i (doN S.L ν A i) = true
        · rw [if_pos hd, if_pos hd]; exact ih
        rw [if_neg hd, if_neg hd]
        have hu := unset_or hi hb
        rw [plain_fuel n m (st ||| 2 ^ i) _ (by omega) (by omega)]
        cases plainF S ν m (st ||| 2 ^ i) (doN S.L ν A i).1 with
        | some l => rfl
        | none => exact ih
    exact key _ fun i hi => List.mem_range.1 hi

/-! ### Keys -/
theorem keyL_at (st : Nat) (A : All) (k j m : Nat) (hj : j < 12) (hm : m < 3) : (keyL S st A k)[1 + 3 * j + m]? = some (kcF S A k j m) := by
  obtain rfl | rfl | rfl | rfl | rfl | rfl | rfl | rfl | rfl | rfl | rfl | rfl : j = 0 ∨ j = 1 ∨ j = 2 ∨ j = 3 ∨ j = 4 ∨ j = 5 ∨ j = 6 ∨ j = 7 ∨ j = 8 ∨ j = 9 ∨ j = 10 ∨ j = 11 := by omega
  all_goals (obtain rfl | rfl | rfl : m = 0 ∨ m = 1 ∨ m = 2 := by omega) <;> rfl
theorem peek3_some {A : All} {nm : ByteArray} {s : Ctr} (h : mget A nm = some s) : peek3 A nm = [s.value, s.held, s.limit] := by unfold peek3; rw [h]
theorem key_ag (hk : S.Ns.length ≤ 12) (hn : ∀ j, j < S.L.length → (pAt S.L j).nm ∈ S.Ns) {st st' : Nat} {A A' : All} (K : KS S.L ν st A) (K' : KS S.L ν st' A') (h : keyF S st A = keyF S st' A') : st = st' ∧ Ag A A' := by
  have e0 : st = st' := by
    have := congrArg (fun l : List Int => l[0]?) h
    simp [keyF, keyL] at this
    omega
  subst e0
  refine ⟨rfl, fun nm => ?_⟩
  have hp : (mget A nm).isSome = (mget A' nm).isSome := by
    rw [Bool.eq_iff_iff, K.pres nm, K'.pres nm]
  cases hA : mget A nm with
  | none =>
    rw [hA] at hp
    cases hA' : mget A' nm with
    | none => rfl
    | some s' => rw [hA'] at hp; cases hp
  | some s =>
    rw [hA] at hp
    cases hA' : mget A' nm with
    | none => rw [hA'] at hp; cases hp
    | some s' =>
      obtain ⟨i, hi, _, hq⟩ := (K.pres nm).1 (by rw [hA]; rfl)
      have hmem := hn i hi
      rw [hq.2.1] at hmem
      obtain ⟨j, hj, ej⟩ := List.getElem_of_mem hmem
      have hg : S.Ns.getD j { data := #[] } = nm := by simp [List.getD, List.getElem?_eq_getElem hj, ej]
      have key : ∀ m, m < 3 → (peek3 A nm).getD m 0 = (peek3 A' nm).getD m 0 := fun m hm => by
        have h1 := congrArg (fun l : List Int => l[1 + 3 * j + m]?) h
        dsimp only [keyF] at h1
        rw [keyL_at _ _ _ _ _ (by omega) hm, keyL_at _ _ _ _ _ (by omega) hm] at h1
        injection h1 with h1
        unfold kcF at h1
        rw [if_pos hj, if_pos hj, hg] at h1
        exact h1
      have k0 := key 0 (by omega)
      have k1 := key 1 (by omega)
      have k2 := key 2 (by omega)
      rw [peek3_some hA, peek3_some hA'] at k0 k1 k2
      simp at k0 k1 k2
      simp [Ctr.three, k0, k1, k2]

/-! ### From -/
abbrev numH (S : Srch) : Nat → Int := fun i => S.H.getD i 0
/-- What has been tried in vain was in vain. -/
def MV (S : Srch) (V : Vm) : Prop := ∀ st A n, KS S.L (numH S) st A → unset S st < n → mget V (keyF S st A) = some true → plainF S (numH S) n st A = none
theorem from_plain (hk : S.Ns.length ≤ 12) (hn : ∀ j, j < S.L.length → (pAt S.L j).nm ∈ S.Ns) (Vh : Vn S.L (numH S)) (k12 : ∀ j, j < S.L.length → (pAt S.L j).k ≠ 12) :
    ∀ (n st : Nat) (A : All) (V : Vm), KS S.L (numH S) st A → unset S st < n → MV S V → (fromF S n st A V).1 = plainF S (numH S) n st A ∧ MV S (fromF S n st A V).2
  | 0, _, _, _, _, h, _ => by omega
  | n + 1, st, A, V, K, hu, hV => by
    rw [fromF]
    by_cases hl : leftF S st = false
    · rw [if_pos hl, plainF, if_pos hl]; exact ⟨rfl, hV⟩
    rw [if_neg hl]
    by_cases hm : (mget V (keyF S st A)).getD false = true
    · rw [if_pos hm]
      refine ⟨(hV st A _ K hu ?_).symm, hV⟩
      cases h : mget V (keyF S st A) with
      | none => rw [h] at hm; cases hm
      | some b => rw [h] at hm; simp at hm; rw [hm]
    rw [if_neg hm]
    have hfull : plainF S (numH S) (n + 1) st A = plainT (plainF S (numH S) n) S (numH S) st A (List.range S.n) := by rw [plainF, if_neg hl]
    rw [hfull]
    have key : ∀ (r : List Nat) (V : Vm), (∀ i ∈ r, i < S.n) → MV S V → plainT (plainF S (numH S) n) S (numH S) st A r = plainT (plainF S (numH S) n) S (numH S) st A (List.range S.n) →
        (tryF (fromF S n) S st A r V).1 = plainT (plainF S (numH S) n) S (numH S) st A r ∧ MV S (tryF (fromF S n) S st A r V).2 := by
      intro r
      induction r with
      | nil =>
        intro V _ hV he
        refine ⟨rfl, fun st' A' m K' hu' hm' => ?_⟩
        have hm2 : mget (mput V (keyF S st A) true) (keyF S st' A') = some true := hm'
        rw [mget_put] at hm2
        split at hm2
        · rename_i hkey
          obtain ⟨rfl, hag⟩ := key_ag hk hn K K' hkey
          rw [← plain_eq Vh Vh k12 m st A A' K K' hag, plain_fuel m (n + 1) st A hu' hu, hfull, ← he]
          rfl
        · exact hV st' A' m K' hu' hm2
      | cons i r ih =>
        intro V hr hV he
        have hi := hr i (by simp)
        have ih := fun V => ih V fun j hj => hr j (by simp [hj])
        have hdo : doS S A i = doN S.L (numH S) A i := rfl
        rw [tryF, plainT, hdo]
        rw [plainT] at he
        by_cases hc : candF S st i = false
        · rw [if_pos hc] at he ⊢; rw [if_pos hc]; exact ih V hV he
        rw [if_neg hc] at he ⊢
        rw [if_neg hc]
        obtain ⟨hb, hs⟩ := cand_bit hc
        by_cases hd : badF S i (doN S.L (numH S) A i) = true
        · rw [if_pos hd] at he ⊢; rw [if_pos hd]; exact ih V hV he
        rw [if_neg hd] at he ⊢
        rw [if_neg hd]
        obtain ⟨g2, g1⟩ := good_of hd
        have hu2 := unset_or hi hb
        obtain ⟨h1, h2⟩ := from_plain hk hn Vh k12 n (st ||| 2 ^ i) (doN S.L (numH S) A i).1 V (K.next hi (k12 i hi) hs (fun h => (g2 h).1) g1) (by omega) hV
        rw [← h1] at he ⊢
        generalize fromF S n (st ||| 2 ^ i) (doN S.L (numH S) A i).1 V = FR at h1 h2 he ⊢
        obtain ⟨F, V2⟩ := FR
        cases F with
        | some l => exact ⟨rfl, h2⟩
        | none => exact ih V2 h2 he
    exact key _ V (fun i hi => List.mem_range.1 hi) hV rfl
end
end Go.Proofs.Ytfcbcgjgkleonaa
