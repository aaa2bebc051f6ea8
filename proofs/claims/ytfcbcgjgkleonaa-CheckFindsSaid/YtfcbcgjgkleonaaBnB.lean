/- Chapter 17's law: an order is found where there is one, the least; of what one place has done there is one. Chapter 17's law: CheckFinds. -/
import Derived.Test.YtfcbcgjgkleonaaCsD
import Derived.Test.YtfcbcgjgkleonaaBnA
import Derived.Test.YtfcbcgjgkleonaaCtA
import Derived.Test.YtfcbcgjgkleonaaBnZ
import Derived.Test.YtfcbcgjgkleonaaCkW
import Derived.Test.YtfcbcgjgkleonaaBnN
namespace Go.Proofs.Ytfcbcgjgkleonaa
section
set_option maxRecDepth 100000
set_option linter.unusedSimpArgs false
set_option linter.unusedVariables false
set_option maxHeartbeats 4000000
open Go.RowKit

abbrev toI (x : List Nat) : List Int := x.map fun i : Nat => (i : Int)
section
variable {S : Srch} {ν : Nat → Int}
/-- One step of an order. -/
theorem ord_cons {i : Nat} {r : List Int} {st : Nat} {l : List Rk} : ordG S ν ((i : Int) :: r) st l = true ↔ i < S.n ∧ st.testBit i = false ∧ earlyF S st i = true ∧
    ((sortF (S.p i) = 2 ∧ badF S i ([], (doRN S.L ν l i).2) = false) ∨ (sortF (S.p i) = 1 ∧ openF (S.p i) = true ∧ (doRN S.L ν l i).2.2 = 0 ∧ r ≠ [])) ∧ ordG S ν r (st ||| 2 ^ i) (doRN S.L ν l i).1 = true := by
  rw [ordG]
  simp only [Int.toNat_natCast]
  by_cases h1 : (i : Int) < 0 ∨ (S.n : Int) ≤ (i : Int) ∨ st.testBit i = true ∨ earlyF S st i = false
  · rw [if_pos h1]
    constructor
    · intro h; cases h
    · rintro ⟨a, b, c, _⟩
      rcases h1 with h | h | h | h
      · omega
      · omega
      · rw [b] at h; cases h
      · rw [c] at h; cases h
  rw [if_neg h1]
  have h2 : i < S.n ∧ st.testBit i = false ∧ earlyF S st i = true := by
    refine ⟨by omega, ?_, ?_⟩
    · cases hb : st.testBit i with
      | false => rfl
      | true => exact absurd (.inr (.inr (.inl hb))) h1
    · cases hb : earlyF S st i with
      | true => rfl
      | false => exact absurd (.inr (.inr (.inr hb))) h1
  by_cases s2 : sortF (S.p i) = 2
  · rw [if_pos s2]
    cases hb : badF S i ([], (doRN S.L ν l i).2) with
    | true =>
      rw [if_pos rfl]
      constructor
      · intro h; cases h
      · rintro ⟨_, _, _, h | h, _⟩
        · cases h.2
        · have := h.1; omega
    | false =>
      simp only [Bool.false_eq_true, if_false]
      exact ⟨fun h => ⟨h2.1, h2.2.1, h2.2.2, .inl ⟨s2, trivial⟩, h⟩, fun h => h.2.2.2.2⟩
  rw [if_neg s2]
  by_cases s1 : sortF (S.p i) = 1 ∧ openF (S.p i) = true
  · rw [if_pos s1]
    by_cases he : (doRN S.L ν l i).2.2 ≠ 0 ∨ r = []
    · rw [if_pos he]
      constructor
      · intro h; cases h
      · rintro ⟨_, _, _, h | ⟨_, _, h, h'⟩, _⟩
        · exact absurd h.1 s2
        · rcases he with he | he
          · exact absurd h he
          · exact absurd he h'
    · rw [if_neg he]
      simp only [not_or, Decidable.not_not] at he
      exact ⟨fun h => ⟨h2.1, h2.2.1, h2.2.2, .inr ⟨s1.1, s1.2, he.1, he.2⟩, h⟩, fun h => h.2.2.2.2⟩
  · rw [if_neg s1]
    constructor
    · intro h; cases h
    · rintro ⟨_, _, _, h | ⟨h, h', _⟩, _⟩
      · exact absurd h.1 s2
      · exact absurd ⟨h, h'⟩ s1
theorem ord_shape : ∀ (y : List Int) (st : Nat) (l : List Rk), ordG S ν y st l = true → ∃ x : List Nat, y = toI x
  | [], _, _, _ => ⟨[], rfl⟩
  | a :: y, st, l, h => by
    have h0 : 0 ≤ a := by
      rw [ordG] at h
      by_cases h' : a < 0
      · rw [if_pos (.inl h')] at h; cases h
      · omega
    obtain ⟨i, rfl⟩ := Int.eq_ofNat_of_zero_le h0
    obtain ⟨x, rfl⟩ := ord_shape y _ _ (ord_cons.1 h).2.2.2.2
    exact ⟨i :: x, rfl⟩
/-- Such a step is tried. -/
theorem step_cand {i st : Nat} {l : List Rk} {b : Prop} (h2 : st.testBit i = false) (h3 : earlyF S st i = true) (h4 : (sortF (S.p i) = 2 ∧ badF S i ([], (doRN S.L ν l i).2) = false) ∨ (sortF (S.p i) = 1 ∧ openF (S.p i) = true ∧ (doRN S.L ν l i).2.2 = 0 ∧ b)) :
    ¬ candF S st i = false ∧ ¬ badF S i ([], (doRN S.L ν l i).2) = true := by
  rcases h4 with ⟨s2, hb⟩ | ⟨s1, ho, he, _⟩
  · exact ⟨by rw [candF, h2, h3, s2]; simp, by rw [hb]; simp⟩
  · exact ⟨by rw [candF, h2, h3, s1, ho]; simp, by rw [badF, s1, he]; simp⟩
theorem restT_none {rec : Nat → List Rk → Option (List Nat)} {st : Nat} {l : List Rk} : ∀ {r : List Nat}, restT rec S ν st l r = none → ∀ i ∈ r, ¬ candF S st i = false → ¬ badF S i ([], (doRN S.L ν l i).2) = true → rec (st ||| 2 ^ i) (doRN S.L ν l i).1 = none
  | [], _, i, hi, _, _ => by simp at hi
  | j :: r, h, i, hi, hc, hb => by
    rw [restT] at h
    by_cases c1 : candF S st j = false
    · rw [if_pos c1] at h
      rcases List.mem_cons.1 hi with rfl | hi
      · exact absurd c1 hc
      · exact restT_none h i hi hc hb
    rw [if_neg c1] at h
    by_cases c2 : badF S j ([], (doRN S.L ν l j).2) = true
    · rw [if_pos c2] at h
      rcases List.mem_cons.1 hi with rfl | hi
      · exact absurd c2 hb
      · exact restT_none h i hi hc hb
    rw [if_neg c2] at h
    cases hr : rec (st ||| 2 ^ j) (doRN S.L ν l j).1 with
    | some x => rw [hr] at h; cases h
    | none =>
      rw [hr] at h
      rcases List.mem_cons.1 hi with rfl | hi
      · exact hr
      · exact restT_none h i hi hc hb
/-- What is found begins with the least that leads on. -/
theorem restT_some {rec : Nat → List Rk → Option (List Nat)} {st : Nat} {l : List Rk} {a : Nat} {x : List Nat} : ∀ {r : List Nat}, r.Pairwise (· < ·) → restT rec S ν st l r = some (a :: x) → rec (st ||| 2 ^ a) (doRN S.L ν l a).1 = some x ∧ a ∈ r ∧
    ∀ b ∈ r, b < a → ¬ candF S st b = false → ¬ badF S b ([], (doRN S.L ν l b).2) = true → rec (st ||| 2 ^ b) (doRN S.L ν l b).1 = none
  | [], _, h => by cases h
  | j :: r, hp, h => by
    rw [List.pairwise_cons] at hp
    rw [restT] at h
    have next : restT rec S ν st l r = some (a :: x) → (¬ candF S st j = false → ¬ badF S j ([], (doRN S.L ν l j).2) = true → rec (st ||| 2 ^ j) (doRN S.L ν l j).1 = none) → rec (st ||| 2 ^ a) (doRN S.L ν l a).1 = some x ∧ a ∈ j :: r ∧
        ∀ b ∈ j :: r, b < a → ¬ candF S st b = false → ¬ badF S b ([], (doRN S.L ν l b).2) = true → rec (st ||| 2 ^ b) (doRN S.L ν l b).1 = none := fun h hj => by
      obtain ⟨h1, h2, h3⟩ := restT_some hp.2 h
      refine ⟨h1, List.mem_cons_of_mem _ h2, fun b hb hba hc hbad => ?_⟩
      rcases List.mem_cons.1 hb with rfl | hb
      · exact hj hc hbad
      · exact h3 b hb hba hc hbad
    by_cases c1 : candF S st j = false
    · rw [if_pos c1] at h
      exact next h fun hc => absurd c1 hc
    rw [if_neg c1] at h
    by_cases c2 : badF S j ([], (doRN S.L ν l j).2) = true
    · rw [if_pos c2] at h
      exact next h fun _ hb => absurd c2 hb
    rw [if_neg c2] at h
    cases hr : rec (st ||| 2 ^ j) (doRN S.L ν l j).1 with
    | some y =>
      rw [hr] at h
      simp only [Option.some.injEq, List.cons.injEq] at h
      obtain ⟨rfl, rfl⟩ := h
      refine ⟨hr, by simp, fun b hb hba => ?_⟩
      rcases List.mem_cons.1 hb with rfl | hb
      · omega
      · have := hp.1 b hb; omega
    | none =>
      rw [hr] at h
      exact next h fun _ _ => hr
/-- Where there is an order one is found. -/
theorem rest_complete : ∀ (n st : Nat) (l : List Rk) (y : List Int), unset S st < n → ordG S ν y st l = true → restF S ν n st l ≠ none
  | 0, _, _, _, h, _ => by omega
  | n + 1, st, l, y, hu, h => by
    rw [restF]
    by_cases hl : leftF S st = false
    · rw [if_pos hl]; simp
    rw [if_neg hl]
    obtain ⟨x, rfl⟩ := ord_shape y st l h
    match x, h with
    | [], h => simp [ordG] at h; exact absurd h hl
    | i :: x, h =>
      obtain ⟨h1, h2, h3, h4, h5⟩ := ord_cons.1 h
      intro hn
      obtain ⟨hc, hb⟩ := step_cand h2 h3 h4
      have := restT_none hn i (List.mem_range.2 h1) hc hb
      exact rest_complete n _ _ _ (by have := unset_or h1 h2; omega) h5 this
/-- What is found is the least. -/
theorem rest_least : ∀ (pre : List Nat) (n st : Nat) (l : List Rk) (a b : Nat) (xs ys : List Nat), unset S st < n → restF S ν n st l = some (pre ++ a :: xs) → ordG S ν (toI (pre ++ b :: ys)) st l = true → a ≤ b
  | pre, 0, st, l, a, b, xs, ys, hu, _, _ => by omega
  | [], n + 1, st, l, a, b, xs, ys, hu, hx, hy => by
    rw [restF] at hx
    split at hx
    · simp at hx
    obtain ⟨_, _, h3⟩ := restT_some List.pairwise_lt_range hx
    obtain ⟨h1, h2, h3', h4, h5⟩ := ord_cons.1 hy
    rcases Nat.lt_or_ge b a with hba | hba
    · obtain ⟨hc, hb⟩ := step_cand h2 h3' h4
      have := h3 b (List.mem_range.2 h1) hba hc hb
      exact absurd this (rest_complete n _ _ _ (by have := unset_or h1 h2; omega) h5)
    · exact hba
  | c :: pre, n + 1, st, l, a, b, xs, ys, hu, hx, hy => by
    rw [restF] at hx
    split at hx
    · simp at hx
    obtain ⟨h1, _, _⟩ := restT_some List.pairwise_lt_range (by simpa using hx)
    obtain ⟨g1, g2, _, _, g5⟩ := ord_cons.1 (show ordG S ν ((c : Int) :: toI (pre ++ b :: ys)) st l = true from hy)
    exact rest_least pre n _ _ a b xs ys (by have := unset_or g1 g2; omega) h1 g5
end

/-! ### A story's own order -/
def Stp (l : List Rk) (p : Pa) (l' : List Rk) : Prop :=
  (sortF p ≠ 2 ∧ l' = l) ∨ (sortF p = 2 ∧ (doR l p.k p.nm p.a p.b p.va).2 = (p.va, p.er) ∧ l' = (doR l p.k p.nm p.a p.b p.va).1) ∨
    (sortF p = 1 ∧ openF p = true ∧ (p.k = 4 ∨ ∀ h, (doR l p.k p.nm p.a p.b h).2.2 = 0 ∧ (doR l p.k p.nm p.a p.b h).1 = l'))
structure TrS (s : Stry) (f : Nat → List Rk) : Prop where
  f0 : f 0 = []
  fn : f s.h.length = s.l
  st : ∀ (j : Nat) (p : Pa), s.h[j]? = some p → Stp (f j) p (f (j + 1))
  fr : ∀ p ∈ s.h, p.fr ≤ 4 * (p.se + 1)
  to : ∀ p ∈ s.h, sortF p = 2 → 4 * (p.se + 1) ≤ p.to
  up : s.h.Pairwise fun p r => p.se < r.se
theorem sort_open {p : Pa} (h1 : p.k ≠ 11) (ho : openF p = true) : sortF p = 1 := by
  have ho' : p.to = -1 ∨ p.er = 111 := by simpa [openF] using ho
  unfold sortF
  rw [if_neg h1, if_pos ho']
theorem TrS.snoc {s : Stry} {f : Nat → List Rk} (t : TrS s f) {p : Pa} {l' : List Rk} {h' : Int} {fx' : List Ef} (hs : Stp s.l p l') (hfr : p.fr ≤ 4 * (p.se + 1)) (hto : sortF p = 2 → 4 * (p.se + 1) ≤ p.to) (hse : ∀ r ∈ s.h, r.se < p.se) :
    TrS ⟨s.h ++ [p], fx', h', l'⟩ (fun j => if j ≤ s.h.length then f j else l') := by
  refine ⟨by simp [t.f0], by show (if (s.h ++ [p]).length ≤ s.h.length then _ else l') = l'; rw [if_neg (by simp)], fun j r hj => ?_, fun r hr => ?_, fun r hr => ?_, ?_⟩
  · rcases Nat.lt_or_ge j s.h.length with hl | hl
    · rw [List.getElem?_append_left hl] at hj
      rw [if_pos (by omega), if_pos (by omega)]
      exact t.st j r hj
    · have hj0 : j = s.h.length := by have := (List.getElem?_eq_some_iff.1 hj).1; simp at this; omega
      subst hj0
      simp at hj; subst hj
      rw [if_pos (Nat.le_refl _), if_neg (by omega), t.fn]
      exact hs
  · rcases List.mem_append.1 hr with hr | hr
    · exact t.fr r hr
    · simp at hr; subst hr; exact hfr
  · rcases List.mem_append.1 hr with hr | hr
    · exact t.to r hr
    · simp at hr; subst hr; exact hto
  · show (s.h ++ [p]).Pairwise _
    rw [List.pairwise_append]
    exact ⟨t.up, by simp, fun a ha b hb => by simp at hb; subst hb; exact hse a ha⟩
theorem tr_all (l : List Mv) : ∀ i, ∃ f, TrS (storyT l i) f
  | 0 => ⟨fun _ => [], rfl, rfl, by simp [storyT], by simp [storyT], by simp [storyT], by simp [storyT]⟩
  | i + 1 => by
    obtain ⟨f, t⟩ := tr_all l i
    have q := sq_all l i
    rw [storyT]
    split
    · rename_i m hm
      generalize storyT l i = s at t q
      unfold stepS
      by_cases hk : m.k < 1 ∨ 10 < m.k
      · rw [if_pos hk]; exact ⟨f, t⟩
      rw [if_neg hk]
      have h1 : 1 ≤ m.k := by omega
      have h10 : m.k ≤ 10 := by omega
      have hse : ∀ r ∈ s.h, r.se < (i : Int) := fun r hr => (q.hb r hr).2.1
      by_cases he : errS (doR s.l m.k m.nm m.a m.b (s.hold + 1)).2.2 m.k = true
      · rw [if_pos he]
        have hbad : (doR s.l m.k m.nm m.a m.b (s.hold + 1)).2.2 ≠ 0 := by
          simp only [errS, decide_eq_true_eq] at he; omega
        have hs := sort1 (i := i) h1 h10 he (doR s.l m.k m.nm m.a m.b (s.hold + 1)).2.1
        have hto := p0S_to i m (doR s.l m.k m.nm m.a m.b (s.hold + 1)).2.2 (doR s.l m.k m.nm m.a m.b (s.hold + 1)).2.1
        exact ⟨_, t.snoc (.inl ⟨hs, (doR_bad hbad).1⟩) hto.2.1 (fun h => absurd h hs) hse⟩
      · rw [if_neg he]
        have he' : errS (doR s.l m.k m.nm m.a m.b (s.hold + 1)).2.2 m.k = false := by simpa using he
        have hs0 := sort0 (i := i) h1 h10 he' (doR s.l m.k m.nm m.a m.b (s.hold + 1)).2.1
        have hag := doR_again he'
        have hto := p0S_to i m (doR s.l m.k m.nm m.a m.b (s.hold + 1)).2.2 (doR s.l m.k m.nm m.a m.b (s.hold + 1)).2.1
        obtain ⟨c1, c2, c3, c4, c5, c6, c7⟩ := p1S_eq i m (doR s.l m.k m.nm m.a m.b (s.hold + 1)).2.2 (doR s.l m.k m.nm m.a m.b (s.hold + 1)).2.1
        have hDe : ∀ va, m.k ≠ 4 → doR s.l m.k m.nm m.a m.b va = doR s.l m.k m.nm m.a m.b (s.hold + 1) := fun va h => doR_h h _ _
        have hbd : (doR s.l m.k m.nm m.a m.b (s.hold + 1)).2.2 ≠ 0 → (doR s.l m.k m.nm m.a m.b (s.hold + 1)).1 = s.l := fun h => (doR_bad h).1
        generalize doR s.l m.k m.nm m.a m.b (s.hold + 1) = D at *
        have c0 : (p1S i m D.2.2 D.2.1).se = (i : Int) := congrArg Prod.fst c1
        refine ⟨_, t.snoc ?_ (by rw [c6, c0]; exact hto.2.1) ?_ (by rw [c0]; exact hse)⟩
        · rcases c7 with ho | e0
          · have hs1 := sort_open (p := p1S i m D.2.2 D.2.1) (by omega) ho
            by_cases hz : D.2.2 = 0
            · refine .inr (.inr ⟨hs1, ho, ?_⟩)
              by_cases k4 : m.k = 4
              · exact .inl (c2.trans k4)
              · refine .inr fun h => ?_
                rw [c2, c3, c4, c5, hDe h k4]
                exact ⟨hz, rfl⟩
            · exact .inl ⟨by rw [hs1]; decide, hbd hz⟩
          · rw [e0]
            refine .inr (.inl ⟨hs0, ?_, ?_⟩)
            · show (doR s.l m.k m.nm m.a m.b D.2.1).2 = (D.2.1, D.2.2)
              rw [hag]
            · show D.1 = (doR s.l m.k m.nm m.a m.b D.2.1).1
              rw [hag]
        · intro h2
          rcases c7 with ho | e0
          · have hs1 := sort_open (p := p1S i m D.2.2 D.2.1) (by omega) ho
            omega
          · rw [e0]; exact hto.2.2
    · exact ⟨f, t⟩
theorem pAt_of {L : List Pa} {j : Nat} {p : Pa} (h : L[j]? = some p) : pAt L j = p := by simp [pAt, List.getD, h]
theorem story_ord {s : Stry} {f : Nat → List Rk} (t : TrS s f) (hg : ∀ p ∈ s.h, ¬ (p.k = 4 ∧ (p.to < 0 ∨ p.er = 111))) : ∀ (m j st : Nat), j + m = s.h.length → (∀ k, k < j → sortF (pAt s.h k) = 2 → st.testBit k = true) → (∀ k, j ≤ k → st.testBit k = false) →
    ∃ y, ordG (srchOf s.h) (numR s.h) y st (f j) = true ∧ ((∃ k, j ≤ k ∧ k < s.h.length ∧ sortF (pAt s.h k) = 2) → y ≠ [])
  | 0, j, st, hj, h1, h2 => by
    refine ⟨[], ?_, fun ⟨k, a, b, _⟩ => by omega⟩
    rw [ordG]
    simp only [Bool.not_eq_true']
    unfold leftF
    rw [List.any_eq_false]
    intro k hk
    have hk' : k < s.h.length := List.mem_range.1 hk
    simp only [Bool.and_eq_true, decide_eq_true_eq, Bool.not_eq_true', not_and, Bool.not_eq_false]
    exact h1 k (by omega)
  | m + 1, j, st, hj, h1, h2 => by
    have hx : s.h[j]? = some s.h[j] := List.getElem?_eq_getElem (by omega)
    have hm := List.getElem_mem (show j < s.h.length by omega)
    have hp := pAt_of hx
    have hst := t.st j _ hx
    generalize s.h[j] = p at hx hm hp hst
    have skip : sortF p ≠ 2 → f (j + 1) = f j → ∃ y, ordG (srchOf s.h) (numR s.h) y st (f j) = true ∧ ((∃ k, j ≤ k ∧ k < s.h.length ∧ sortF (pAt s.h k) = 2) → y ≠ []) := fun hs e => by
      obtain ⟨y, hy, hn⟩ := story_ord t hg m (j + 1) st (by omega) (fun k hk h => by
        rcases Nat.lt_succ_iff_lt_or_eq.1 hk with hk | rfl
        · exact h1 k hk h
        · rw [hp] at h; exact absurd h hs) (fun k hk => h2 k (by omega))
      rw [e] at hy
      refine ⟨y, hy, fun ⟨k, a, b, c⟩ => hn ⟨k, ?_, b, c⟩⟩
      rcases Nat.lt_or_ge j k with h | h
      · omega
      · have : k = j := by omega
        subst this
        rw [hp] at c; exact absurd c hs
    have early : earlyF (srchOf s.h) st j = true := by
      unfold earlyF
      rw [List.all_eq_true]
      intro k hk
      have hk' : k < s.h.length := List.mem_range.1 hk
      simp only [Bool.not_eq_true', Bool.and_eq_false_iff, Bool.not_eq_false', decide_eq_false_iff_not]
      by_cases hb : st.testBit k = true
      · exact .inl (.inl hb)
      by_cases h2' : sortF (pAt s.h k) = 2
      · right
        have hjk : j ≤ k := by
          rcases Nat.lt_or_ge k j with h | h
          · exact absurd (h1 k h h2') hb
          · exact h
        have hxk : s.h[k]? = some s.h[k] := List.getElem?_eq_getElem hk'
        have hpk := pAt_of hxk
        have hmk := List.getElem_mem hk'
        have hse : p.se ≤ s.h[k].se := by
          rcases Nat.lt_or_ge j k with h | h
          · have := List.pairwise_iff_getElem.1 t.up j k (by omega) hk' h
            rw [(List.getElem?_eq_some_iff.1 hx).2] at this
            omega
          · have : k = j := by omega
            subst this
            rw [hxk] at hx; simp at hx; rw [hx]; omega
        have a1 := t.fr p hm
        have a2 := t.to _ hmk (by rw [← hpk]; exact h2')
        have e1 : (srchOf s.h).p k = s.h[k] := hpk
        have e2 : (srchOf s.h).p j = p := hp
        rw [e1, e2]
        omega
      · exact .inl (.inr h2')
    have go : ∀ l', f (j + 1) = l' → (doRN s.h (numR s.h) (f j) j).1 = l' → (∀ r : List Int, ((∃ k, j + 1 ≤ k ∧ k < s.h.length ∧ sortF (pAt s.h k) = 2) → r ≠ []) →
        ((sortF ((srchOf s.h).p j) = 2 ∧ badF (srchOf s.h) j ([], (doRN s.h (numR s.h) (f j) j).2) = false) ∨ (sortF ((srchOf s.h).p j) = 1 ∧ openF ((srchOf s.h).p j) = true ∧ (doRN s.h (numR s.h) (f j) j).2.2 = 0 ∧ r ≠ []))) →
        ∃ y, ordG (srchOf s.h) (numR s.h) y st (f j) = true ∧ ((∃ k, j ≤ k ∧ k < s.h.length ∧ sortF (pAt s.h k) = 2) → y ≠ []) := fun l' e1 e2 hr => by
      obtain ⟨y, hy, hn⟩ := story_ord t hg m (j + 1) (st ||| 2 ^ j) (by omega) (fun k hk h => by
        rcases Nat.lt_succ_iff_lt_or_eq.1 hk with hk | rfl
        · exact (bit_add st j k).2 (.inl (h1 k hk h))
        · exact (bit_add st k k).2 (.inr rfl)) (fun k hk => by
        cases hb : (st ||| 2 ^ j).testBit k with
        | false => rfl
        | true =>
          rcases (bit_add st j k).1 hb with h | h
          · rw [h2 k (by omega)] at h; cases h
          · omega)
      refine ⟨(j : Int) :: y, ord_cons.2 ⟨by show j < s.h.length; omega, h2 j (Nat.le_refl _), early, hr y hn, ?_⟩, fun _ => by simp⟩
      show ordG (srchOf s.h) (numR s.h) y (st ||| 2 ^ j) (doRN s.h (numR s.h) (f j) j).1 = true
      rw [e2, ← e1]; exact hy
    have ep : (srchOf s.h).p j = p := hp
    rcases hst with ⟨hs, e⟩ | ⟨hs, hd, e⟩ | ⟨hs, ho, hd⟩
    · exact skip hs e
    · have hD : doRN s.h (numR s.h) (f j) j = doR (f j) p.k p.nm p.a p.b p.va := by
        unfold doRN
        rw [hp, show numR s.h j = p.va by unfold numR; rw [hp, if_pos hs]]
      refine go _ e (by rw [hD]) fun r _ => .inl ⟨by rw [ep]; exact hs, ?_⟩
      rw [hD]
      unfold badF
      rw [ep, hs, hd]
      simp
    · have k4 : p.k ≠ 4 := fun h => hg p hm ⟨h, by
        have : p.to = -1 ∨ p.er = 111 := by simpa [openF] using ho
        omega⟩
      have hd := hd.resolve_left k4
      by_cases hmust : ∃ k, j + 1 ≤ k ∧ k < s.h.length ∧ sortF (pAt s.h k) = 2
      · have hD : doRN s.h (numR s.h) (f j) j = doR (f j) p.k p.nm p.a p.b (numR s.h j) := by
          unfold doRN
          rw [hp]
        have hd' := hd (numR s.h j)
        refine go _ rfl (by rw [hD]; exact hd'.2) fun r hr => .inr ⟨by rw [ep]; exact hs, by rw [ep]; exact ho, by rw [hD]; exact hd'.1, hr hmust⟩
      · refine ⟨[], ?_, fun ⟨k, a, b, c⟩ => ?_⟩
        · rw [ordG]
          simp only [Bool.not_eq_true']
          unfold leftF
          rw [List.any_eq_false]
          intro k hk
          have hk' : k < s.h.length := List.mem_range.1 hk
          simp only [Bool.and_eq_true, decide_eq_true_eq, Bool.not_eq_true', not_and, Bool.not_eq_false]
          intro h
          rcases Nat.lt_or_ge k j with hkj | hkj
          · exact h1 k hkj h
          · rcases Nat.lt_or_ge j k with h' | h'
            · exact absurd ⟨k, h', hk', h⟩ hmust
            · have : k = j := by omega
              subst this
              have h' : sortF (pAt s.h k) = 2 := h
              rw [hp] at h'; omega
        · exfalso
          rcases Nat.lt_or_ge j k with h' | h'
          · exact hmust ⟨k, h', b, c⟩
          · have : k = j := by omega
            subst this
            rw [hp] at c; omega
/-- Of a story an order is found. -/
theorem story_found {s : Stry} {f : Nat → List Rk} (t : TrS s f) (hg : ∀ p ∈ s.h, ¬ (p.k = 4 ∧ (p.to < 0 ∨ p.er = 111))) (hr : rightH s.h = true) (hN : s.h.length ≤ 12) : ∃ x, searchF s.h = (toI x, 0) ∧ restF (srchOf s.h) (numR s.h) 13 0 [] = some x := by
  obtain ⟨y, hy, _⟩ := story_ord t hg s.h.length 0 0 (by omega) (fun k hk => by omega) (fun k _ => by simp)
  rw [t.f0] at hy
  have hu : unset (srchOf s.h) 0 < 13 := by
    have : unset (srchOf s.h) 0 ≤ (List.range (srchOf s.h).n).length := List.countP_le_length
    have h2 : (srchOf s.h).n = s.h.length := rfl
    rw [List.length_range, h2] at this; omega
  have hne := rest_complete 13 0 [] y hu hy
  cases hx : restF (srchOf s.h) (numR s.h) 13 0 [] with
  | none => exact absurd hx hne
  | some x =>
    refine ⟨x, ?_, rfl⟩
    unfold searchF
    rw [if_neg (by rw [hr]; simp), if_neg (by omega), search_rest hr hN, hx]
/-! ### A value that can't have been read -/
theorem doR7 {l : List Rk} (hl : ∀ c ∈ l, c.ok) {nm : ByteArray} {a b h : Int} : (doR l 7 nm a b h).2.1 ≤ 1099511627776 := by
  unfold doR
  by_cases hr : rightB 7 nm a b = false
  · rw [if_pos hr]; dsimp only; omega
  rw [if_neg hr, if_neg (by decide)]
  cases hc : (kfind l nm).bind (l[·]?) with
  | none => dsimp only; omega
  | some c =>
    dsimp only
    have hcl : c ∈ l := by
      cases hf : kfind l nm with
      | none => rw [hf] at hc; cases hc
      | some j => rw [hf] at hc; exact List.mem_of_getElem? hc
    have hv := (hl c hcl).in_.v
    split
    · dsimp only; omega
    · show (doneF c 7 a b h).2.1 ≤ _
      have : (doneF c 7 a b h).2.1 = c.v := by simp [doneF]
      omega
theorem wrong_read {S : Srch} {ν : Nat → Int} {k : Nat} (hk : k < S.n) (h2 : sortF (S.p k) = 2) (h7 : (S.p k).k = 7) (hv : (S.p k).va = 2199023255552) : ∀ (y : List Int) (st : Nat) (l : List Rk), st.testBit k = false → (∃ d, ∀ c ∈ l, c.ok ∧ c.holds.length ≤ d ∧ c.used.length ≤ d) → ordG S ν y st l = false
  | [], st, l, hb, _ => by
    rw [ordG]
    simp only [Bool.not_eq_false']
    unfold leftF
    rw [List.any_eq_true]
    exact ⟨k, List.mem_range.2 hk, by rw [h2, hb]; rfl⟩
  | a :: y, st, l, hb, ⟨d, hd⟩ => by
    cases ho : ordG S ν (a :: y) st l with
    | false => rfl
    | true =>
      obtain ⟨x, hx⟩ := ord_shape _ _ _ ho
      match x, hx with
      | i :: x, hx =>
        simp only [List.map_cons, List.cons.injEq] at hx
        obtain ⟨rfl, rfl⟩ := hx
        obtain ⟨g1, g2, g3, g4, g5⟩ := ord_cons.1 ho
        by_cases e : i = k
        · subst e
          rcases g4 with ⟨_, hbad⟩ | ⟨hs, _⟩
          · unfold badF at hbad
            rw [h2, hv] at hbad
            have hle := doR7 (fun c hc => (hd c hc).1) (nm := (pAt S.L i).nm) (a := (pAt S.L i).a) (b := (pAt S.L i).b) (h := ν i)
            have e7 : (pAt S.L i).k = 7 := h7
            unfold doRN at hbad
            rw [e7] at hbad
            simp only [decide_true, Bool.true_and, Bool.or_eq_false_iff, decide_eq_false_iff_not, Decidable.not_not] at hbad
            omega
          · omega
        · have hfit := (doR_fit hd (pAt S.L i).k (pAt S.L i).nm (pAt S.L i).a (pAt S.L i).b (ν i)).1
          have := wrong_read (ν := ν) hk h2 h7 hv (toI x) (st ||| 2 ^ i) (doRN S.L ν l i).1 (by
            cases hb' : (st ||| 2 ^ i).testBit k with
            | false => rfl
            | true =>
              rcases (bit_add st i k).1 hb' with h | h
              · rw [hb] at h; cases h
              · exact absurd h.symm e) ⟨d + 1, hfit⟩
          rw [this] at g5; cases g5
theorem wrong_none {L : List Pa} {k : Nat} {p : Pa} (hr : rightH L = true) (hN : L.length ≤ 12) (hp : L[k]? = some p) (h2 : sortF p = 2) (h7 : p.k = 7) (hv : p.va = 2199023255552) : searchF L = ([], 171) := by
  have ep : (srchOf L).p k = p := pAt_of hp
  unfold searchF
  rw [if_neg (by rw [hr]; simp), if_neg (by omega), search_rest hr hN]
  cases hx : restF (srchOf L) (numR L) 13 0 [] with
  | none => rfl
  | some x =>
    have ho := rest_order 13 0 [] x hx
    have := wrong_read (S := srchOf L) (ν := numR L) (k := k) (List.getElem?_eq_some_iff.1 hp).1 (by rw [ep]; exact h2) (by rw [ep]; exact h7) (by rw [ep]; exact hv) (toI x) 0 [] (by simp) ⟨0, by simp⟩
    rw [this] at ho; cases ho
end
section
set_option maxRecDepth 100000
set_option linter.unusedSimpArgs false
set_option linter.unusedVariables false
set_option maxHeartbeats 16000000
open Go.RowKit

theorem okAt_set {L : List Pa} {k : Nat} {p p' : Pa} (hp : L[k]? = some p) (h1 : okP p' = okP p) (h2 : p'.call = p.call) (j : Nat) : okAt (L.set k p') j = okAt L j := by
  have hk := (List.getElem?_eq_some_iff.1 hp).1
  have hc : calls (L.set k p') = calls L := by
    unfold calls
    rw [List.map_set, h2]
    apply List.ext_getElem?
    intro i
    rw [List.getElem?_set]
    by_cases e : k = i
    · subst e
      rw [if_pos rfl, if_pos (by simpa using hk), List.getElem?_map, hp]; rfl
    · rw [if_neg e]
  have hct : calls ((L.set k p').take j) = calls (L.take j) := by
    unfold calls at hc ⊢
    rw [List.map_take, hc, List.map_take]
  unfold okAt
  rw [hct]
  by_cases e : k = j
  · subst e
    rw [List.getElem?_set_self hk, hp]
    dsimp only
    rw [h1, h2]
  · rw [List.getElem?_set_ne e]
theorem rightH_set {L : List Pa} {k : Nat} {p p' : Pa} (hp : L[k]? = some p) (h1 : okP p' = okP p) (h2 : p'.call = p.call) (hr : rightH L = true) : rightH (L.set k p') = true := by
  unfold rightH at hr ⊢
  rw [List.length_set, List.all_eq_true] at *
  intro j hj
  rw [okAt_set hp h1 h2]
  exact hr j hj
theorem split2 {x : List Nat} {i : Nat} (h : i + 1 < x.length) : ∃ pre a b xs, x = pre ++ a :: b :: xs ∧ pre.length = i := by
  refine ⟨x.take i, x[i], x[i + 1], x.drop (i + 2), ?_, by simp; omega⟩
  conv => lhs; rw [← List.take_append_drop i x, List.drop_eq_getElem_cons (by omega), List.drop_eq_getElem_cons h]
theorem iset {pre : List Nat} {c d : Nat} {ys : List Nat} : (ints (toI (pre ++ c :: ys))).take pre.length ++ [.int .i64 (d : Int)] ++ (ints (toI (pre ++ c :: ys))).drop (pre.length + 1) = ints (toI (pre ++ d :: ys)) := by
  simp [List.take_append, List.drop_append, toI, ints]
theorem iset2 {pre : List Nat} {a b : Nat} {xs : List Nat} : (ints (toI (pre ++ b :: b :: xs))).take (pre.length + 1) ++ [.int .i64 (a : Int)] ++ (ints (toI (pre ++ b :: b :: xs))).drop (pre.length + 1 + 1) = ints (toI (pre ++ b :: a :: xs)) := by
  rw [show pre ++ b :: b :: xs = (pre ++ [b]) ++ b :: xs by simp, show pre ++ b :: a :: xs = (pre ++ [b]) ++ a :: xs by simp, show pre.length + 1 = (pre ++ [b]).length by simp]
  exact iset
theorem sizeInt' : sizeB Try.prog 3 = some 1 := by kernel_rfl
theorem CheckFinds_ok {o : Option Addr} {l : List Mv} {w : World} (cap : Nat) (turn : Int) (hR : (mvRes o l).R w) (hl : l.length ≤ 9223372036854775806) (hg : ∀ m ∈ l, m.good) (ht : i64 turn) :
    Calls Try.prog 7 #[.slice o l.length cap, .int .i64 turn] w fun x w' => x = .returned (.bool true) ∧ Frm [] w w' := by
  obtain ⟨itp, hitp, hpp⟩ := Option.map_eq_some_iff.1 infoPast
  simp only [Prod.mk.injEq] at hpp
  obtain ⟨iti, hiti, hpi9⟩ := Option.map_eq_some_iff.1 infoInt
  simp only [Prod.mk.injEq] at hpi9
  have hI := Inv.nil (P := Try.prog) (N := 153) (S := []) (os := []) w
  have hM1 : ∀ w1, Frm [] w w1 → (mvRes o l).R w1 := fun w1 hf => (mvRes o l).stable _ _ (fun k hk => hf.block k (rd_lt hR k hk) (by simp)) hR
  refine calls_sm (cx 153 [] [] w) (vals := [.raw (.slice o l.length cap), .int .i64 turn]) mixed Try.func7 rfl rfl rfl hI rfl (st rfl ?_); conv => arg 3; whnf
  refine gw ?_
  refine n_sameP (.bool true) rfl rfl rfl (fun _ w1 hp1 hI1 => able_ok w1) ?_; (refine gs ?_)
  refine gw ?_
  have q := sq_all l (min l.length 7)
  have gd := sg_all hg (min l.length 7) (by omega)
  have hin := storyT_in l (min l.length 7)
  obtain ⟨f, tr⟩ := tr_all l (min l.length 7)
  refine n_callN (fun y : (Option Addr × Nat) × (Option Addr × Nat) => (paRow y.1 (storyT l (min l.length 7)).h).both (efRow y.2 (storyT l (min l.length 7)).fx)) 55 (fun y => .tup [.raw (.slice y.1.1 (storyT l (min l.length 7)).h.length y.1.2), .raw (.slice y.2.1 (storyT l (min l.length 7)).fx.length y.2.2)]) (fun y => .tuple #[.slice y.1.1 (storyT l (min l.length 7)).h.length y.1.2, .slice y.2.1 (storyT l (min l.length 7)).fx.length y.2.2]) (fun y => 0 < (storyT l (min l.length 7)).h.length → ∃ g, y.1.1 = some ⟨g, 0, none⟩) rfl rfl rfl (fun _ => rfl) (fun w1 hI1 => (story_ok (most := 7) cap (hM1 _ hI1.frm) (rd_lt (hM1 _ hI1.frm)) hl hg (by omega)).mono fun e w' ⟨y, he, _, hF⟩ => ⟨y, he, fun h => rowRes_some' hF.2.1.1 h, hF⟩) ?_
  rintro ⟨⟨ho, hc⟩, ⟨eo, ec⟩⟩ hoN hnew
  dsimp only at hoN hnew
  generalize storyT l (min l.length 7) = T at *
  obtain ⟨b1, b2, _⟩ := hin
  have hh7 : T.h.length ≤ 7 := by omega
  (refine gs ?_)
  refine gw ?_
  refine n_loop (σ := Nat) (fun i => [(1, .int .i64 turn), (5, .raw (.slice ho T.h.length hc)), (7, .int .i64 (i : Nat))]) (fun _ => [⟨55, [.res ((paRow (ho, hc) T.h).both (efRow (eo, ec) T.fx))], true⟩]) (fun i => i ≤ T.h.length ∧ ∀ j p, j < i → T.h[j]? = some p → ¬ (p.k = 4 ∧ (p.to < 0 ∨ p.er = 111))) (fun i => T.h.length - i) 0 mixed ⟨by omega, fun j p h => by omega⟩ (fun _ _ => rfl) rfl (by (repeat (first | exact trivial | refine ⟨⟨rfl, rfl⟩, ?_⟩))) (fun s _ => ⟨by (repeat (first | exact trivial | refine ⟨⟨_, rfl⟩, ?_⟩)), by (repeat (first | exact trivial | refine ⟨⟨_, rfl⟩, ?_⟩))⟩) fun i hi => ?_
  obtain ⟨hi, hJ⟩ := hi
  (refine gs ?_)
  by_cases hil : i < T.h.length
  · have ei : IntKind.i64.wrap ((i : Int) + 1) = ((i + 1 : Nat) : Int) := by rw [w64 (by omega) (by omega)]; simp
    have hx : T.h[i]? = some T.h[i] := List.getElem?_eq_getElem hil
    obtain ⟨gh, rfl⟩ := hoN (by omega)
    generalize T.h[i] = p at hx
    have cp : ∀ {w1 : World} (j : Nat) {u : Value}, p.l[j]? = some u → ((paRow (some ⟨gh, 0, none⟩, hc) T.h).both (efRow (eo, ec) T.fx)).R w1 → ∀ {ad : Addr}, ad = (⟨gh, 0, none⟩ : Addr).add (i * 10 + j) → w1.cell? ad = some u := fun j _ hu h _ had => pa_cell (rd_of_row h.1) hx j hu had
    (repeat ((first | refine n_must rfl ?_ | refine n_chk (drawF_ok (by decide +kernel)) ?_ | refine n_same rfl ?_ | ((first | refine n_must ?_ ?_ | refine n_brT ?_ ?_); (focus (first | (simp [hil]; done) | (simp [hil]; omega) | (simp only [hil]; simp; done)))) | (refine n_brF ?_ ?_; (focus (first | (simp [hil]; done) | (simp [hil]; omega) | (simp only [hil]; simp; done)))) | refine n_must (by (with_reducible refine and_shape ?_) <;> kernel_rfl) ?_); (refine gs ?_)))
    (refine n_ldA (.int .i64 p.k) rfl (by first | exact trivial | rfl) rfl (fun _ w1 _ hI1 => load_cell aggInt (cp 2 rfl (hI1.res 0 rfl rfl) (by simp [add_add]))) ?_; (refine gs ?_))
    by_cases k4 : p.k = 4
    · (repeat ((first | refine n_must rfl ?_ | refine n_chk (drawF_ok (by decide +kernel)) ?_ | refine n_same rfl ?_ | ((first | refine n_must ?_ ?_ | refine n_brT ?_ ?_); (focus (first | (simp [k4, hil]; done) | (simp [k4, hil]; omega) | (simp only [k4, hil]; simp; done)))) | (refine n_brF ?_ ?_; (focus (first | (simp [k4, hil]; done) | (simp [k4, hil]; omega) | (simp only [k4, hil]; simp; done)))) | refine n_must (by (with_reducible refine and_shape ?_) <;> kernel_rfl) ?_); (refine gs ?_)))
      (refine n_ldA (.int .i64 p.to) rfl (by first | exact trivial | rfl) rfl (fun _ w1 _ hI1 => load_cell aggInt (cp 7 rfl (hI1.res 0 rfl rfl) (by simp [add_add]))) ?_; (refine gs ?_))
      by_cases hto : p.to < 0
      · (repeat ((first | refine n_must rfl ?_ | refine n_chk (drawF_ok (by decide +kernel)) ?_ | refine n_same rfl ?_ | ((first | refine n_must ?_ ?_ | refine n_brT ?_ ?_); (focus (first | (simp [hto]; done) | (simp [hto]; omega) | (simp only [hto]; simp; done)))) | (refine n_brF ?_ ?_; (focus (first | (simp [hto]; done) | (simp [hto]; omega) | (simp only [hto]; simp; done)))) | refine n_must (by (with_reducible refine and_shape ?_) <;> kernel_rfl) ?_); (refine gs ?_)))
        refine n_leave ?_
        exact n_ret0 rfl rfl fun ids' w' hp hI' => ⟨rfl, hI'.frm⟩
      · (repeat ((first | refine n_must rfl ?_ | refine n_chk (drawF_ok (by decide +kernel)) ?_ | refine n_same rfl ?_ | ((first | refine n_must ?_ ?_ | refine n_brT ?_ ?_); (focus (first | (simp [hto, hil]; done) | (simp [hto, hil]; omega) | (simp only [hto, hil]; simp; done)))) | (refine n_brF ?_ ?_; (focus (first | (simp [hto, hil]; done) | (simp [hto, hil]; omega) | (simp only [hto, hil]; simp; done)))) | refine n_must (by (with_reducible refine and_shape ?_) <;> kernel_rfl) ?_); (refine gs ?_)))
        (refine n_ldA (.int .i64 p.er) rfl (by first | exact trivial | rfl) rfl (fun _ w1 _ hI1 => load_cell aggErr (cp 8 rfl (hI1.res 0 rfl rfl) (by simp [add_add]))) ?_; (refine gs ?_))
        by_cases her : p.er = 111
        · (repeat ((first | refine n_must rfl ?_ | refine n_chk (drawF_ok (by decide +kernel)) ?_ | refine n_same rfl ?_ | ((first | refine n_must ?_ ?_ | refine n_brT ?_ ?_); (focus (first | (simp [her]; done) | (simp [her]; omega) | (simp only [her]; simp; done)))) | (refine n_brF ?_ ?_; (focus (first | (simp [her]; done) | (simp [her]; omega) | (simp only [her]; simp; done)))) | refine n_must (by (with_reducible refine and_shape ?_) <;> kernel_rfl) ?_); (refine gs ?_)))
          refine n_leave ?_
          exact n_ret0 rfl rfl fun ids' w' hp hI' => ⟨rfl, hI'.frm⟩
        · (repeat ((first | refine n_must rfl ?_ | refine n_chk (drawF_ok (by decide +kernel)) ?_ | refine n_same rfl ?_ | ((first | refine n_must ?_ ?_ | refine n_brT ?_ ?_); (focus (first | (simp [her]; done) | (simp [her]; omega) | (simp only [her]; simp; done)))) | (refine n_brF ?_ ?_; (focus (first | (simp [her]; done) | (simp [her]; omega) | (simp only [her]; simp; done)))) | refine n_must (by (with_reducible refine and_shape ?_) <;> kernel_rfl) ?_); (refine gs ?_)))
          refine n_again ⟨i + 1, ⟨by omega, fun j r hj hr => ?_⟩, by omega, (by (repeat (first | exact trivial | refine ⟨⟨rfl, rfl⟩, ?_⟩ | refine ⟨⟨rfl, congrArg (SV.int .i64) ei⟩, ?_⟩))), ⟨_, rfl⟩⟩
          by_cases e : j = i
          · subst e
            rw [hx] at hr; simp at hr; subst hr
            omega
          · exact hJ j r (by omega) hr
    · (repeat ((first | refine n_must rfl ?_ | refine n_chk (drawF_ok (by decide +kernel)) ?_ | refine n_same rfl ?_ | ((first | refine n_must ?_ ?_ | refine n_brT ?_ ?_); (focus (first | (simp [k4]; done) | (simp [k4]; omega) | (simp only [k4]; simp; done)))) | (refine n_brF ?_ ?_; (focus (first | (simp [k4]; done) | (simp [k4]; omega) | (simp only [k4]; simp; done)))) | refine n_must (by (with_reducible refine and_shape ?_) <;> kernel_rfl) ?_); (refine gs ?_)))
      refine n_again ⟨i + 1, ⟨by omega, fun j r hj hr => ?_⟩, by omega, (by (repeat (first | exact trivial | refine ⟨⟨rfl, rfl⟩, ?_⟩ | refine ⟨⟨rfl, congrArg (SV.int .i64) ei⟩, ?_⟩))), ⟨_, rfl⟩⟩
      by_cases e : j = i
      · subst e
        rw [hx] at hr; simp at hr; subst hr
        exact fun h => k4 h.1
      · exact hJ j r (by omega) hr
  obtain rfl : i = T.h.length := by omega
  refine gw ?_
  refine n_exit rfl ?_
  (refine gs ?_)
  refine gw ?_
  have hgu : ∀ p ∈ T.h, ¬ (p.k = 4 ∧ (p.to < 0 ∨ p.er = 111)) := fun p hp => by
    obtain ⟨j, hj⟩ := List.getElem?_of_mem hp
    exact hJ j p (List.getElem?_eq_some_iff.1 hj).1 hj
  obtain ⟨x, hs, hx⟩ := story_found tr hgu q.right (by omega)
  have hxl : x.length ≤ 13 := restF_len _ _ 13 0 [] x hx
  have hR1 : ∀ {w1 : World}, ((paRow (ho, hc) T.h).both (efRow (eo, ec) T.fx)).R w1 → (paRes ho T.h).R w1 := fun h => rd_of_row h.1
  refine n_callN (fun y : Option Addr × Nat => oRes y (toI x)) 3 (fun y => .tup [.raw (.slice y.1 (toI x).length y.2), .int .i64 0]) (fun y => .tuple #[.slice y.1 (toI x).length y.2, .int .i64 0]) (fun y => 0 < (toI x).length → ∃ g, y.1 = some ⟨g, 0, none⟩) rfl rfl rfl (fun _ => rfl) (fun w1 hI1 => by
    have h := Search_ok (o := ho) (L := T.h) (w := w1) hc (hR1 (hI1.res 0 rfl rfl)) (rd_lt (hR1 (hI1.res 0 rfl rfl))) (by omega) gd.1
    rw [hs] at h
    exact h.mono fun e w' ⟨y, he, _, hF⟩ => ⟨y, he, fun h => rowRes_some' hF.2.1 h, hF⟩) ?_
  rintro ⟨xo, xc⟩ hxo hnew2
  dsimp only at hxo
  have hxi : (toI x).length = x.length := by simp
  (refine gs ?_)
  refine gw ?_
  refine n_sameP (.bool true) rfl rfl rfl (fun _ w1 hp1 hI1 => (by have h := order_ok (S := srchOf T.h) (o := ho) (ol := xo) (l := toI x) (w := w1) hc xc (by show T.h.length ≤ 12; omega) (hR1 (hI1.res 0 rfl rfl)) (rd_lt (hR1 (hI1.res 0 rfl rfl))) (rd_of_row (hI1.res 1 rfl rfl)) (rd_lt (rd_of_row (hI1.res 1 rfl rfl))) (by omega); rw [rest_order 13 0 [] x hx] at h; exact h)) ?_; (refine gs ?_)
  refine gw ?_
  refine n_loop (σ := Nat) (fun i => [(1, .int .i64 turn), (5, .raw (.slice ho T.h.length hc)), (8, .raw (.slice xo (toI x).length xc)), (10, .int .i64 (i : Nat))]) (fun _ => [⟨55, [.res ((paRow (ho, hc) T.h).both (efRow (eo, ec) T.fx))], true⟩, ⟨3, [.res (oRes (xo, xc) (toI x))], true⟩]) (fun i => i ≤ x.length) (fun i => x.length - i) 0 mixed (by omega) (fun _ _ => rfl) rfl (by (repeat (first | exact trivial | refine ⟨⟨rfl, rfl⟩, ?_⟩))) (fun s _ => ⟨by (repeat (first | exact trivial | refine ⟨⟨_, rfl⟩, ?_⟩)), by (repeat (first | exact trivial | refine ⟨⟨_, rfl⟩, ?_⟩))⟩) fun i hi2 => ?_
  have ei : IntKind.i64.wrap ((i : Int) + 1) = ((i + 1 : Nat) : Int) := by rw [w64 (by omega) (by omega)]; simp
  (refine gs ?_)
  by_cases hil : i + 1 < x.length
  · obtain ⟨pre, a, b, xs, rfl, rfl⟩ := split2 hil
    have hil' : ((pre.length + 1 : Nat) : Int) < ((toI (pre ++ a :: b :: xs)).length : Nat) := by omega
    obtain ⟨gx, rfl⟩ := hxo (by omega)
    (repeat ((first | refine n_must rfl ?_ | refine n_chk (drawF_ok (by decide +kernel)) ?_ | refine n_same rfl ?_ | ((first | refine n_must ?_ ?_ | refine n_brT ?_ ?_); (focus (first | (simp [ei, hil']; done) | (simp [ei, hil']; omega) | (simp only [ei, hil']; simp; done)))) | (refine n_brF ?_ ?_; (focus (first | (simp [ei, hil']; done) | (simp [ei, hil']; omega) | (simp only [ei, hil']; simp; done)))) | refine n_must (by (with_reducible refine and_shape ?_) <;> kernel_rfl) ?_); (refine gs ?_)))
    refine n_appendN1 (nv := ints (toI (pre ++ a :: b :: xs))) rfl rfl rfl elemInt hiti hpi9.1 hpi9.2.1 hpi9.2.2 rfl (by omega) rfl rfl (by simp) (fun _ w1 _ hI1 => rd_of_row (hI1.res 1 rfl rfl)) (fun u hu => by obtain ⟨v, _, rfl⟩ := List.mem_map.1 hu; rfl) (by omega) (by omega) (by omega) fun gy yc hyc => ?_
    (refine gs ?_)
    (repeat ((first | refine n_must rfl ?_ | refine n_chk (drawF_ok (by decide +kernel)) ?_ | refine n_same rfl ?_ | ((first | refine n_must ?_ ?_ | refine n_brT ?_ ?_); (focus (first | (simp [ei, hil']; done) | (simp [ei, hil']; omega) | (simp only [ei, hil']; simp; done)))) | (refine n_brF ?_ ?_; (focus (first | (simp [ei, hil']; done) | (simp [ei, hil']; omega) | (simp only [ei, hil']; simp; done)))) | refine n_must (by (with_reducible refine and_shape ?_) <;> kernel_rfl) ?_); (refine gs ?_)))
    have hxl2 : (ints (toI (pre ++ a :: b :: xs))).length = (pre ++ a :: b :: xs).length := by simp
    have hlo : ordG (srchOf T.h) (numR T.h) (toI (pre ++ b :: a :: xs)) 0 [] = true → a ≤ b := fun h => rest_least pre 13 0 [] a b (b :: xs) (a :: xs) (by
      have : unset (srchOf T.h) 0 ≤ (List.range (srchOf T.h).n).length := List.countP_le_length
      have h2 : (srchOf T.h).n = T.h.length := rfl
      rw [List.length_range, h2] at this; omega) hx h
    have ca : ∀ {w1 : World} {g c : Nat} {X : List Nat} {k v : Nat}, (rowRes 3 1 (some ⟨g, 0, none⟩) (toI (pre ++ a :: b :: xs)).length c (ints (toI X))).R w1 → X[k]? = some v → ∀ {ad : Addr}, ad = (⟨g, 0, none⟩ : Addr).add k → w1.cell? ad = some (.int .i64 (v : Int)) := fun h hk _ had => by
      rw [had]; exact rowRes_cell h (by simp [toI, ints, hk])
    (refine n_ldA (.int .i64 (b : Int)) rfl (by first | exact trivial | rfl) rfl (fun _ w1 _ hI1 => load_cell aggInt (ca (X := pre ++ a :: b :: xs) (k := pre.length + 1) (v := b) (hI1.res 2 rfl rfl) (by simp) (by rw [ei, Nat.mul_one]; rfl))) ?_; (refine gs ?_))
    (repeat ((first | refine n_must rfl ?_ | refine n_chk (drawF_ok (by decide +kernel)) ?_ | refine n_same rfl ?_ | ((first | refine n_must ?_ ?_ | refine n_brT ?_ ?_); (focus (first | (simp [ei, hil']; done) | (simp [ei, hil']; omega) | (simp only [ei, hil']; simp; done)))) | (refine n_brF ?_ ?_; (focus (first | (simp [ei, hil']; done) | (simp [ei, hil']; omega) | (simp only [ei, hil']; simp; done)))) | refine n_must (by (with_reducible refine and_shape ?_) <;> kernel_rfl) ?_); (refine gs ?_)))
    (refine n_ldA (.int .i64 (a : Int)) rfl (by first | exact trivial | rfl) rfl (fun _ w1 _ hI1 => load_cell aggInt (ca (X := pre ++ a :: b :: xs) (k := pre.length) (v := a) (hI1.res 2 rfl rfl) (by simp) (by rw [Nat.mul_one]; rfl))) ?_; (refine gs ?_))
    (repeat ((first | refine n_must rfl ?_ | refine n_chk (drawF_ok (by decide +kernel)) ?_ | refine n_same rfl ?_ | ((first | refine n_must ?_ ?_ | refine n_brT ?_ ?_); (focus (first | (simp [ei, hil']; done) | (simp [ei, hil']; omega) | (simp only [ei, hil']; simp; done)))) | (refine n_brF ?_ ?_; (focus (first | (simp [ei, hil']; done) | (simp [ei, hil']; omega) | (simp only [ei, hil']; simp; done)))) | refine n_must (by (with_reducible refine and_shape ?_) <;> kernel_rfl) ?_); (refine gs ?_)))
    refine n_storeRow (g := gy) (off := pre.length) (k := 1) (rv := .int .i64 (b : Int)) (v := .int .i64 (b : Int)) 2 (ints (toI (pre ++ b :: b :: xs))) rfl rfl rfl ((show _ = (⟨gy, 0, none⟩ : Addr).add (pre.length * 1) from rfl).trans (by rw [add_mk, Nat.mul_one])) rfl rfl sizeInt' rfl rfl rfl (by omega) iset ?_
    (refine gs ?_)
    (repeat ((first | refine n_must rfl ?_ | refine n_chk (drawF_ok (by decide +kernel)) ?_ | refine n_same rfl ?_ | ((first | refine n_must ?_ ?_ | refine n_brT ?_ ?_); (focus (first | (simp [ei, hil']; done) | (simp [ei, hil']; omega) | (simp only [ei, hil']; simp; done)))) | (refine n_brF ?_ ?_; (focus (first | (simp [ei, hil']; done) | (simp [ei, hil']; omega) | (simp only [ei, hil']; simp; done)))) | refine n_must (by (with_reducible refine and_shape ?_) <;> kernel_rfl) ?_); (refine gs ?_)))
    refine n_storeRow (g := gy) (off := pre.length + 1) (k := 1) (rv := .int .i64 (a : Int)) (v := .int .i64 (a : Int)) 2 (ints (toI (pre ++ b :: a :: xs))) rfl rfl rfl (by rw [ei]; exact ((show _ = (⟨gy, 0, none⟩ : Addr).add ((pre.length + 1) * 1) from rfl).trans (by rw [add_mk, Nat.mul_one]))) rfl rfl sizeInt' rfl rfl rfl (by simp; omega) iset2 ?_
    (refine gs ?_)
    (repeat ((first | refine n_must rfl ?_ | refine n_chk (drawF_ok (by decide +kernel)) ?_ | refine n_same rfl ?_ | ((first | refine n_must ?_ ?_ | refine n_brT ?_ ?_); (focus (first | (simp [ei, hil']; done) | (simp [ei, hil']; omega) | (simp only [ei, hil']; simp; done)))) | (refine n_brF ?_ ?_; (focus (first | (simp [ei, hil']; done) | (simp [ei, hil']; omega) | (simp only [ei, hil']; simp; done)))) | refine n_must (by (with_reducible refine and_shape ?_) <;> kernel_rfl) ?_); (refine gs ?_)))
    (refine n_ldA (.int .i64 (b : Int)) rfl (by first | exact trivial | rfl) rfl (fun _ w1 _ hI1 => load_cell aggInt (ca (X := pre ++ b :: a :: xs) (k := pre.length) (v := b) (hI1.res 2 rfl rfl) (by simp) (by rw [Nat.mul_one]; rfl))) ?_; (refine gs ?_))
    (repeat ((first | refine n_must rfl ?_ | refine n_chk (drawF_ok (by decide +kernel)) ?_ | refine n_same rfl ?_ | ((first | refine n_must ?_ ?_ | refine n_brT ?_ ?_); (focus (first | (simp [ei, hil']; done) | (simp [ei, hil']; omega) | (simp only [ei, hil']; simp; done)))) | (refine n_brF ?_ ?_; (focus (first | (simp [ei, hil']; done) | (simp [ei, hil']; omega) | (simp only [ei, hil']; simp; done)))) | refine n_must (by (with_reducible refine and_shape ?_) <;> kernel_rfl) ?_); (refine gs ?_)))
    (refine n_ldA (.int .i64 (a : Int)) rfl (by first | exact trivial | rfl) rfl (fun _ w1 _ hI1 => load_cell aggInt (ca (X := pre ++ a :: b :: xs) (k := pre.length) (v := a) (hI1.res 1 rfl rfl) (by simp) (by rw [Nat.mul_one]; rfl))) ?_; (refine gs ?_))
    refine gw ?_
    by_cases hba : b < a
    · have hba' : (b : Int) < (a : Int) := by omega
      (repeat ((first | refine n_must rfl ?_ | refine n_chk (drawF_ok (by decide +kernel)) ?_ | refine n_same rfl ?_ | ((first | refine n_must ?_ ?_ | refine n_brT ?_ ?_); (focus (first | (simp [hba']; done) | (simp [hba']; omega) | (simp only [hba']; simp; done)))) | (refine n_brF ?_ ?_; (focus (first | (simp [hba']; done) | (simp [hba']; omega) | (simp only [hba']; simp; done)))) | refine n_must (by (with_reducible refine and_shape ?_) <;> kernel_rfl) ?_); (refine gs ?_)))
      have hlen2 : (toI (pre ++ a :: b :: xs)).length = (toI (pre ++ b :: a :: xs)).length := by simp
      have hbad : ordG (srchOf T.h) (numR T.h) (toI (pre ++ b :: a :: xs)) 0 [] = false := by
        cases h : ordG (srchOf T.h) (numR T.h) (toI (pre ++ b :: a :: xs)) 0 [] with
        | false => rfl
        | true => have := hlo h; omega
      refine n_sameP (.bool false) rfl rfl rfl (fun _ w1 hp1 hI1 => (by have hw := hI1.res 2 rfl rfl; rw [hlen2] at hw; have h := order_ok (S := srchOf T.h) (o := ho) (ol := some ⟨gy, 0, none⟩) (l := toI (pre ++ b :: a :: xs)) (w := w1) hc yc (by show T.h.length ≤ 12; omega) (hR1 (hI1.res 0 rfl rfl)) (rd_lt (hR1 (hI1.res 0 rfl rfl))) (rd_of_row hw) (rd_lt (rd_of_row hw)) (by omega); rw [hbad, ← hlen2] at h; exact h)) ?_; (refine gs ?_)
      refine gw ?_
      exact n_again ⟨pre.length + 1, by omega, by omega, (by (repeat (first | exact trivial | refine ⟨⟨rfl, rfl⟩, ?_⟩ | refine ⟨⟨rfl, congrArg (SV.int .i64) ei⟩, ?_⟩))), ⟨_, rfl⟩⟩
    · have hba' : ¬ (b : Int) < (a : Int) := by omega
      (repeat ((first | refine n_must rfl ?_ | refine n_chk (drawF_ok (by decide +kernel)) ?_ | refine n_same rfl ?_ | ((first | refine n_must ?_ ?_ | refine n_brT ?_ ?_); (focus (first | (simp [hba']; done) | (simp [hba']; omega) | (simp only [hba']; simp; done)))) | (refine n_brF ?_ ?_; (focus (first | (simp [hba']; done) | (simp [hba']; omega) | (simp only [hba']; simp; done)))) | refine n_must (by (with_reducible refine and_shape ?_) <;> kernel_rfl) ?_); (refine gs ?_)))
      exact n_again ⟨pre.length + 1, by omega, by omega, (by (repeat (first | exact trivial | refine ⟨⟨rfl, rfl⟩, ?_⟩ | refine ⟨⟨rfl, congrArg (SV.int .i64) ei⟩, ?_⟩))), ⟨_, rfl⟩⟩
  · have hil' : ¬ ((i + 1 : Nat) : Int) < ((toI x).length : Nat) := by omega
    (repeat ((first | refine n_must rfl ?_ | refine n_chk (drawF_ok (by decide +kernel)) ?_ | refine n_same rfl ?_ | ((first | refine n_must ?_ ?_ | refine n_brT ?_ ?_); (focus (first | (simp [ei, hil']; done) | (simp [ei, hil']; omega) | (simp only [ei, hil']; simp; done)))) | (refine n_brF ?_ ?_; (focus (first | (simp [ei, hil']; done) | (simp [ei, hil']; omega) | (simp only [ei, hil']; simp; done)))) | refine n_must (by (with_reducible refine and_shape ?_) <;> kernel_rfl) ?_); (refine gs ?_)))
    refine n_exit rfl ?_
    (refine gs ?_)
    by_cases h0 : T.h.length = 0
    · have hx0 : (toI x).length = 0 := by
        have hl0 : leftF (srchOf T.h) 0 = false := by
          unfold leftF
          rw [List.any_eq_false]
          intro k hk
          have hk' : k < T.h.length := List.mem_range.1 hk
          omega
        rw [restF, if_pos hl0] at hx
        simp at hx; subst hx; rfl
      (repeat ((first | refine n_must rfl ?_ | refine n_chk (drawF_ok (by decide +kernel)) ?_ | refine n_same rfl ?_ | ((first | refine n_must ?_ ?_ | refine n_brT ?_ ?_); (focus (first | (simp [h0, hx0]; done) | (simp [h0, hx0]; omega) | (simp only [h0, hx0]; simp; done)))) | (refine n_brF ?_ ?_; (focus (first | (simp [h0, hx0]; done) | (simp [h0, hx0]; omega) | (simp only [h0, hx0]; simp; done)))) | refine n_must (by (with_reducible refine and_shape ?_) <;> kernel_rfl) ?_); (refine gs ?_)))
      refine n_ret0 rfl rfl fun ids' w' hp hI' => ⟨ret_bool (by rw [hx0]; rfl), hI'.frm⟩
    (repeat ((first | refine n_must rfl ?_ | refine n_chk (drawF_ok (by decide +kernel)) ?_ | refine n_same rfl ?_ | ((first | refine n_must ?_ ?_ | refine n_brT ?_ ?_); (focus (first | (simp [h0]; done) | (simp [h0]; omega) | (simp only [h0]; simp; done)))) | (refine n_brF ?_ ?_; (focus (first | (simp [h0]; done) | (simp [h0]; omega) | (simp only [h0]; simp; done)))) | refine n_must (by (with_reducible refine and_shape ?_) <;> kernel_rfl) ?_); (refine gs ?_)))
    have hbk := within_in (x := turn) (show (0 : Int) < (T.h.length : Nat) by omega)
    refine n_sameP (.int .i64 (withinI turn (T.h.length : Nat))) rfl rfl rfl (fun _ w1 hp1 hI1 => lwithin_ok turn (T.h.length : Nat) ht (by omega) (by omega) w1) ?_; (refine gs ?_)
    obtain ⟨k, hk⟩ : ∃ k : Nat, withinI turn (T.h.length : Nat) = (k : Int) := ⟨_, (Int.toNat_of_nonneg hbk.1).symm⟩
    rw [hk] at hbk ⊢
    have hkl : k < T.h.length := by omega
    have hp : T.h[k]? = some T.h[k] := List.getElem?_eq_getElem hkl
    have hpm := List.getElem_mem hkl
    generalize T.h[k] = p at hp hpm
    obtain ⟨gh, rfl⟩ := hoN (by omega)
    have cp : ∀ {w1 : World} (j : Nat) {u : Value}, p.l[j]? = some u → ((paRow (some ⟨gh, 0, none⟩, hc) T.h).both (efRow (eo, ec) T.fx)).R w1 → ∀ {ad : Addr}, ad = (⟨gh, 0, none⟩ : Addr).add (k * 10 + j) → w1.cell? ad = some u := fun j _ hu h _ had => pa_cell (rd_of_row h.1) hp j hu had
    have hkl' : (k : Int) < (T.h.length : Nat) := by omega
    (repeat ((first | refine n_must rfl ?_ | refine n_chk (drawF_ok (by decide +kernel)) ?_ | refine n_same rfl ?_ | ((first | refine n_must ?_ ?_ | refine n_brT ?_ ?_); (focus (first | (simp [hkl']; done) | (simp [hkl']; omega) | (simp only [hkl']; simp; done)))) | (refine n_brF ?_ ?_; (focus (first | (simp [hkl']; done) | (simp [hkl']; omega) | (simp only [hkl']; simp; done)))) | refine n_must (by (with_reducible refine and_shape ?_) <;> kernel_rfl) ?_); (refine gs ?_)))
    refine n_ldI (.agg p.sv) rfl rfl (fun _ w1 _ hI1 => pa_row (rd_of_row (hI1.res 0 rfl rfl).1) hp rfl) ?_
    (refine gs ?_)
    refine gw ?_
    refine n_sameP (.int .i64 (sortF p)) rfl rfl rfl (fun _ w1 hp1 hI1 => rSort_ok p w1) ?_; (refine gs ?_)
    by_cases h2 : sortF p = 2
    · (repeat ((first | refine n_must rfl ?_ | refine n_chk (drawF_ok (by decide +kernel)) ?_ | refine n_same rfl ?_ | ((first | refine n_must ?_ ?_ | refine n_brT ?_ ?_); (focus (first | (simp [h2, hkl']; done) | (simp [h2, hkl']; omega) | (simp only [h2, hkl']; simp; done)))) | (refine n_brF ?_ ?_; (focus (first | (simp [h2, hkl']; done) | (simp [h2, hkl']; omega) | (simp only [h2, hkl']; simp; done)))) | refine n_must (by (with_reducible refine and_shape ?_) <;> kernel_rfl) ?_); (refine gs ?_)))
      (refine n_ldA (.int .i64 p.k) rfl (by first | exact trivial | rfl) rfl (fun _ w1 _ hI1 => load_cell aggInt (cp 2 rfl (hI1.res 0 rfl rfl) (by simp [add_add]))) ?_; (refine gs ?_))
      by_cases h7 : p.k = 7
      · (repeat ((first | refine n_must rfl ?_ | refine n_chk (drawF_ok (by decide +kernel)) ?_ | refine n_same rfl ?_ | ((first | refine n_must ?_ ?_ | refine n_brT ?_ ?_); (focus (first | (simp [h7, hkl']; done) | (simp [h7, hkl']; omega) | (simp only [h7, hkl']; simp; done)))) | (refine n_brF ?_ ?_; (focus (first | (simp [h7, hkl']; done) | (simp [h7, hkl']; omega) | (simp only [h7, hkl']; simp; done)))) | refine n_must (by (with_reducible refine and_shape ?_) <;> kernel_rfl) ?_); (refine gs ?_)))
        (refine n_ldA (.int .i64 p.er) rfl (by first | exact trivial | rfl) rfl (fun _ w1 _ hI1 => load_cell aggErr (cp 8 rfl (hI1.res 0 rfl rfl) (by simp [add_add]))) ?_; (refine gs ?_))
        by_cases he : p.er = 0
        · (repeat ((first | refine n_must rfl ?_ | refine n_chk (drawF_ok (by decide +kernel)) ?_ | refine n_same rfl ?_ | ((first | refine n_must ?_ ?_ | refine n_brT ?_ ?_); (focus (first | (simp [he]; done) | (simp [he]; omega) | (simp only [he]; simp; done)))) | (refine n_brF ?_ ?_; (focus (first | (simp [he]; done) | (simp [he]; omega) | (simp only [he]; simp; done)))) | refine n_must (by (with_reducible refine and_shape ?_) <;> kernel_rfl) ?_); (refine gs ?_)))
          refine n_appendN1 (nv := T.h.flatMap Pa.l) rfl rfl rfl elemPast hitp hpp.1 hpp.2.1 hpp.2.2 rfl (by omega) rfl rfl (by rw [flat_len pa_len]) (fun _ w1 _ hI1 => rd_of_row (hI1.res 0 rfl rfl).1) (one_pa T.h) (by omega) (by omega) (by omega) fun gv wc hwc => ?_
          (refine gs ?_)
          (repeat ((first | refine n_must rfl ?_ | refine n_chk (drawF_ok (by decide +kernel)) ?_ | refine n_same rfl ?_ | ((first | refine n_must ?_ ?_ | refine n_brT ?_ ?_); (focus (first | (simp [hkl']; done) | (simp [hkl']; omega) | (simp only [hkl']; simp; done)))) | (refine n_brF ?_ ?_; (focus (first | (simp [hkl']; done) | (simp [hkl']; omega) | (simp only [hkl']; simp; done)))) | refine n_must (by (with_reducible refine and_shape ?_) <;> kernel_rfl) ?_); (refine gs ?_)))
          refine n_storeRow (g := gv) (off := k * 10 + 9) (k := 1) (rv := .int .i64 2199023255552) (v := .int .i64 2199023255552) 2 ((T.h.set k { p with va := 2199023255552 }).flatMap Pa.l) rfl rfl rfl ((addT ⟨gv, 0, none⟩ k 10 9).trans (add_mk _ _)) rfl rfl sizeInt' rfl rfl rfl (by rw [flat_len pa_len]; omega) (flat_set1 pa_len hp (j := 9) (by omega) rfl) ?_
          (refine gs ?_)
          refine gw ?_
          have hrw := rightH_set (p' := { p with va := 2199023255552 }) hp rfl rfl q.right
          have hls : (T.h.set k { p with va := 2199023255552 }).length = T.h.length := by simp
          have hno := wrong_none (L := T.h.set k { p with va := 2199023255552 }) (k := k) (p := { p with va := 2199023255552 }) hrw (by omega) (List.getElem?_set_self hkl) h2 h7 rfl
          have hpg := gd.1 p hpm
          have hgs : ∀ r ∈ T.h.set k { p with va := 2199023255552 }, r.good := fun r hr => (List.mem_or_eq_of_mem_set hr).elim (gd.1 r) (fun e => e ▸ ⟨hpg.se, hpg.id, hpg.nm, hpg.a, ⟨by dsimp only; omega, by dsimp only; omega⟩⟩)
          refine n_callN (fun y : Option Addr × Nat => oRes y []) 3 (fun y => .tup [.raw (.slice y.1 0 y.2), .int .i64 171]) (fun y => .tuple #[.slice y.1 0 y.2, .int .i64 171]) (fun _ => True) rfl rfl rfl (fun _ => rfl) (fun w1 hI1 => by
            have hw : (paRes (some ⟨gv, 0, none⟩) (T.h.set k { p with va := 2199023255552 })).R w1 := rd_of_row (hI1.res 2 rfl rfl)
            have h := Search_ok (o := some ⟨gv, 0, none⟩) (L := T.h.set k { p with va := 2199023255552 }) (w := w1) wc hw (rd_lt hw) (by omega) hgs
            rw [hno, hls] at h
            exact h) ?_
          rintro ⟨zo, zc⟩ _ hnew3
          (refine gs ?_)
          refine gw ?_
          exact n_ret0 rfl rfl fun ids' w' hp hI' => ⟨rfl, hI'.frm⟩
        · (repeat ((first | refine n_must rfl ?_ | refine n_chk (drawF_ok (by decide +kernel)) ?_ | refine n_same rfl ?_ | ((first | refine n_must ?_ ?_ | refine n_brT ?_ ?_); (focus (first | (simp [he]; done) | (simp [he]; omega) | (simp only [he]; simp; done)))) | (refine n_brF ?_ ?_; (focus (first | (simp [he]; done) | (simp [he]; omega) | (simp only [he]; simp; done)))) | refine n_must (by (with_reducible refine and_shape ?_) <;> kernel_rfl) ?_); (refine gs ?_)))
          exact n_ret0 rfl rfl fun ids' w' hp hI' => ⟨rfl, hI'.frm⟩
      · (repeat ((first | refine n_must rfl ?_ | refine n_chk (drawF_ok (by decide +kernel)) ?_ | refine n_same rfl ?_ | ((first | refine n_must ?_ ?_ | refine n_brT ?_ ?_); (focus (first | (simp [h7]; done) | (simp [h7]; omega) | (simp only [h7]; simp; done)))) | (refine n_brF ?_ ?_; (focus (first | (simp [h7]; done) | (simp [h7]; omega) | (simp only [h7]; simp; done)))) | refine n_must (by (with_reducible refine and_shape ?_) <;> kernel_rfl) ?_); (refine gs ?_)))
        exact n_ret0 rfl rfl fun ids' w' hp hI' => ⟨rfl, hI'.frm⟩
    · (repeat ((first | refine n_must rfl ?_ | refine n_chk (drawF_ok (by decide +kernel)) ?_ | refine n_same rfl ?_ | ((first | refine n_must ?_ ?_ | refine n_brT ?_ ?_); (focus (first | (simp [h2]; done) | (simp [h2]; omega) | (simp only [h2]; simp; done)))) | (refine n_brF ?_ ?_; (focus (first | (simp [h2]; done) | (simp [h2]; omega) | (simp only [h2]; simp; done)))) | refine n_must (by (with_reducible refine and_shape ?_) <;> kernel_rfl) ?_); (refine gs ?_)))
      exact n_ret0 rfl rfl fun ids' w' hp hI' => ⟨rfl, hI'.frm⟩
end
end Go.Proofs.Ytfcbcgjgkleonaa
