/- Chapter 17's law: a story, plain. Chapter 17's law: what one place has done is right; turned it is not. -/
import Derived.Test.YtfcbcgjgkleonaaCkY
namespace Go.Proofs.Ytfcbcgjgkleonaa
section
set_option maxRecDepth 100000
set_option linter.unusedSimpArgs false
set_option linter.unusedVariables false
set_option maxHeartbeats 4000000
open Go.RowKit

def absI (x : Int) : Int := if x < 0 then -(x + 1) else x
def withinI (x n : Int) : Int := (absI x).tmod n
theorem within_in {x n : Int} (h : 0 < n) : 0 ≤ withinI x n ∧ withinI x n < n := by
  unfold withinI
  have hy0 : 0 ≤ absI x := by unfold absI; split <;> omega
  rw [Int.tmod_eq_emod_of_nonneg hy0]
  exact ⟨Int.emod_nonneg _ (by omega), Int.emod_lt_of_pos _ h⟩
structure Mv where
  k : Int
  nm : ByteArray
  a : Int
  b : Int
  wait : Int
  late : Int
  lost : Bool
structure Mv.good (m : Mv) : Prop where
  nm : m.nm.size ≤ maxLen
  a : i64 m.a
  wait : i64 m.wait
  late : i64 m.late
/-! ### A story -/
def FitS (d : Nat) (l : List Rk) : Prop := (∀ c ∈ l, c.ok ∧ c.holds.length ≤ d ∧ c.used.length ≤ d) ∧ l.length ≤ d
structure Stry where
  h : List Pa
  fx : List Ef
  hold : Int
  l : List Rk
def errS (e k : Int) : Bool := decide (e = 1 ∨ e = 60 ∧ k ≠ 8)
def p0S (i : Nat) (m : Mv) (e v : Int) : Pa := ⟨(i : Nat), 1, m.k, m.nm, m.a, m.b, max 0 (4 * ((i : Int) + 1) - withinI m.wait 12), 4 * ((i : Int) + 1) + withinI m.late 12, e, v⟩
def p1S (i : Nat) (m : Mv) (e v : Int) : Pa := if m.lost then { p0S i m e v with er := 111, va := 0 } else if andI .i64 m.late 1 = 1 then { p0S i m e v with to := -1, er := 0, va := 0 } else p0S i m e v
def efS (i : Nat) (m : Mv) (e v : Int) : Ef := ⟨4 * ((i : Int) + 1), (i : Nat), 1, m.k, m.nm, m.a, m.b, e, v⟩
def stepS (s : Stry) (i : Nat) (m : Mv) : Stry :=
  if m.k < 1 ∨ 10 < m.k then s else
    if errS (doR s.l m.k m.nm m.a m.b (s.hold + 1)).2.2 m.k = true then ⟨s.h ++ [p0S i m (doR s.l m.k m.nm m.a m.b (s.hold + 1)).2.2 (doR s.l m.k m.nm m.a m.b (s.hold + 1)).2.1], s.fx, s.hold + 1, (doR s.l m.k m.nm m.a m.b (s.hold + 1)).1⟩
    else ⟨s.h ++ [p1S i m (doR s.l m.k m.nm m.a m.b (s.hold + 1)).2.2 (doR s.l m.k m.nm m.a m.b (s.hold + 1)).2.1], s.fx ++ [efS i m (doR s.l m.k m.nm m.a m.b (s.hold + 1)).2.2 (doR s.l m.k m.nm m.a m.b (s.hold + 1)).2.1], s.hold + 1, (doR s.l m.k m.nm m.a m.b (s.hold + 1)).1⟩
def storyT (l : List Mv) : Nat → Stry
  | 0 => ⟨[], [], 0, []⟩
  | i + 1 => match l[i]? with | some m => stepS (storyT l i) i m | none => storyT l i
theorem storyT_next {l : List Mv} {i : Nat} {m : Mv} (h : l[i]? = some m) : storyT l (i + 1) = stepS (storyT l i) i m := by rw [storyT, h]
theorem storyT_in (l : List Mv) : ∀ i, (storyT l i).h.length ≤ i ∧ (storyT l i).fx.length ≤ i ∧ 0 ≤ (storyT l i).hold ∧ (storyT l i).hold ≤ i ∧ FitS i (storyT l i).l
  | 0 => ⟨by simp [storyT], by simp [storyT], by simp [storyT], by simp [storyT], fun c hc => by simp [storyT] at hc, by simp [storyT]⟩
  | i + 1 => by
    obtain ⟨h1, h2, h3, h4, h5, h6⟩ := storyT_in l i
    rw [storyT]
    have hw : FitS (i + 1) (storyT l i).l := ⟨fun c hc => by obtain ⟨a, b, c⟩ := h5 c hc; exact ⟨a, by omega, by omega⟩, by omega⟩
    split
    · rename_i m _
      obtain ⟨d1, d2⟩ := doR_fit h5 m.k m.nm m.a m.b ((storyT l i).hold + 1)
      unfold stepS
      split
      · exact ⟨by omega, by omega, h3, by omega, hw⟩
      · split
        · exact ⟨by simp; omega, by dsimp only; omega, by dsimp only; omega, by dsimp only; omega, d1, by dsimp only; omega⟩
        · exact ⟨by simp; omega, by simp; omega, by dsimp only; omega, by dsimp only; omega, d1, by dsimp only; omega⟩
    · exact ⟨by omega, by omega, h3, by omega, hw⟩
end
section
set_option maxRecDepth 100000
set_option linter.unusedSimpArgs false
set_option linter.unusedVariables false
set_option maxHeartbeats 4000000
open Go.RowKit

theorem doneF_h {c : Rk} {k a b : Int} (hk : k ≠ 4) (h h' : Int) : doneF c k a b h = doneF c k a b h' := by
  unfold doneF
  simp only [hk, if_false]
theorem doR_h {l : List Rk} {k : Int} {nm : ByteArray} {a b : Int} (hk : k ≠ 4) (h h' : Int) : doR l k nm a b h = doR l k nm a b h' := by
  unfold doR
  simp only [doneF_h hk h h']
theorem doR_bad {l : List Rk} {k : Int} {nm : ByteArray} {a b h : Int} (he : (doR l k nm a b h).2.2 ≠ 0) : (doR l k nm a b h).1 = l ∧ (doR l k nm a b h).2.1 = 0 := by
  unfold doR at he ⊢
  by_cases hr : rightB k nm a b = false
  · rw [if_pos hr]; exact ⟨rfl, rfl⟩
  rw [if_neg hr] at he ⊢
  by_cases hk : k = 1
  · rw [if_pos hk] at he ⊢
    by_cases h1 : (kfind l nm).isSome = true
    · rw [if_pos h1]; exact ⟨rfl, rfl⟩
    rw [if_neg h1] at he ⊢
    by_cases h2 : a < b
    · rw [if_pos h2]; exact ⟨rfl, rfl⟩
    rw [if_neg h2] at he
    exact absurd rfl he
  rw [if_neg hk] at he ⊢
  cases hc : (kfind l nm).bind (l[·]?) with
  | none => exact ⟨rfl, rfl⟩
  | some c =>
    rw [hc] at he
    dsimp only at he ⊢
    by_cases h3 : (doneF c k a b h).2.2 ≠ 0
    · rw [if_pos h3]; exact ⟨rfl, rfl⟩
    · rw [if_neg h3] at he; exact absurd rfl he
theorem doneF_er {c : Rk} {k a b h : Int} : (doneF c k a b h).2.2 = 0 ∨ (doneF c k a b h).2.2 = 60 ∨ (doneF c k a b h).2.2 = 70 ∨ (doneF c k a b h).2.2 = 110 ∨ (k = 4 ∧ (doneF c k a b h).2.2 = 1) ∨ ((doneF c k a b h).2.2 = 61 ∧ (k = 9 ∨ (k ≠ 2 ∧ k ≠ 3 ∧ k ≠ 4 ∧ k ≠ 5 ∧ k ≠ 6 ∧ k ≠ 7 ∧ k ≠ 8 ∧ k ≠ 9 ∧ k ≠ 12))) := by
  unfold doneF
  repeat' split
  all_goals simp_all
theorem done4 {c : Rk} {a b h : Int} : (doneF c 4 a b h).2.2 = 60 ∨ (doneF c 4 a b h).2.2 = 1 ∨ ((doneF c 4 a b h).2.2 = 0 ∧ (doneF c 4 a b h).2.1 = h) := by
  unfold doneF
  repeat' split
  all_goals simp_all
/-- What an op may answer. -/
theorem doR_er {l : List Rk} {k : Int} {nm : ByteArray} {a b h : Int} (h1 : 1 ≤ k) (h10 : k ≤ 10) : (doR l k nm a b h).2.2 = 0 ∨ (doR l k nm a b h).2.2 = 1 ∨ (doR l k nm a b h).2.2 = 60 ∨ (doR l k nm a b h).2.2 = 70 ∨ (doR l k nm a b h).2.2 = 100 ∨ (doR l k nm a b h).2.2 = 101 ∨ (doR l k nm a b h).2.2 = 110 ∨ ((doR l k nm a b h).2.2 = 61 ∧ (k = 1 ∨ k = 9 ∨ k = 10)) := by
  unfold doR
  by_cases hr : rightB k nm a b = false
  · rw [if_pos hr]; simp
  rw [if_neg hr]
  by_cases hk : k = 1
  · rw [if_pos hk]
    by_cases h1 : (kfind l nm).isSome = true
    · rw [if_pos h1]; simp
    rw [if_neg h1]
    by_cases h2 : a < b
    · rw [if_pos h2]; simp [hk]
    rw [if_neg h2]; simp
  rw [if_neg hk]
  cases hc : (kfind l nm).bind (l[·]?) with
  | none => simp
  | some c =>
    dsimp only
    have h0 := doneF_er (c := c) (k := k) (a := a) (b := b) (h := h)
    by_cases h3 : (doneF c k a b h).2.2 ≠ 0
    · rw [if_pos h3]; dsimp only; omega
    · rw [if_neg h3]; simp
/-- What is recorded may be done again with its own answer as its number. -/
theorem doR_again {l : List Rk} {k : Int} {nm : ByteArray} {a b h : Int} (he : errS (doR l k nm a b h).2.2 k = false) : doR l k nm a b (doR l k nm a b h).2.1 = doR l k nm a b h := by
  by_cases hk : k = 4
  · subst hk
    simp only [errS, decide_eq_false_iff_not] at he
    unfold doR at he ⊢
    by_cases hr : rightB 4 nm a b = false
    · simp only [if_pos hr]
    simp only [if_neg hr, show ¬ (4 : Int) = 1 by decide, if_false] at he ⊢
    cases hc : (kfind l nm).bind (l[·]?) with
    | none => rfl
    | some c =>
      rw [hc] at he
      dsimp only at he ⊢
      rcases done4 (c := c) (a := a) (b := b) (h := h) with e | e | ⟨e, e2⟩
      · rw [if_pos (by omega)] at he; dsimp only at he; omega
      · rw [if_pos (by omega)] at he; dsimp only at he; omega
      · have hX : (if (doneF c 4 a b h).2.2 ≠ 0 then (l, 0, (doneF c 4 a b h).2.2) else (l.set ((kfind l nm).getD 0) (doneF c 4 a b h).1, (doneF c 4 a b h).2.1, 0)) = (l.set ((kfind l nm).getD 0) (doneF c 4 a b h).1, h, 0) := by rw [if_neg (by omega), e2]
        simp only [hX]
  · exact doR_h hk _ _

/-! ### Each entry -/
theorem p1S_eq (i : Nat) (m : Mv) (e v : Int) : (p1S i m e v).call = ((i : Int), 1) ∧ (p1S i m e v).k = m.k ∧ (p1S i m e v).nm = m.nm ∧ (p1S i m e v).a = m.a ∧ (p1S i m e v).b = m.b ∧ (p1S i m e v).fr = (p0S i m e v).fr ∧ (openF (p1S i m e v) = true ∨ p1S i m e v = p0S i m e v) := by
  unfold p1S
  split
  · exact ⟨rfl, rfl, rfl, rfl, rfl, rfl, .inl (by simp [openF])⟩
  · split
    · exact ⟨rfl, rfl, rfl, rfl, rfl, rfl, .inl (by simp [openF])⟩
    · exact ⟨rfl, rfl, rfl, rfl, rfl, rfl, .inr rfl⟩
theorem p0S_to (i : Nat) (m : Mv) (e v : Int) : 0 ≤ (p0S i m e v).fr ∧ (p0S i m e v).fr ≤ 4 * ((i : Int) + 1) ∧ 4 * ((i : Int) + 1) ≤ (p0S i m e v).to := by
  have h1 := within_in (x := m.wait) (show (0 : Int) < 12 by omega)
  have h2 := within_in (x := m.late) (show (0 : Int) < 12 by omega)
  simp only [p0S]
  omega
theorem p1S_to (i : Nat) (m : Mv) (e v : Int) : (p1S i m e v).to = -1 ∨ (p1S i m e v).to = (p0S i m e v).to := by
  unfold p1S
  split
  · exact .inr rfl
  · split
    · exact .inl rfl
    · exact .inr rfl
section
variable {l : List Rk} {i : Nat} {m : Mv} {h : Int}
theorem sort0 (h1 : 1 ≤ m.k) (h10 : m.k ≤ 10) (he : errS (doR l m.k m.nm m.a m.b h).2.2 m.k = false) (v : Int) : sortF (p0S i m (doR l m.k m.nm m.a m.b h).2.2 v) = 2 := by
  have h0 := doR_er (l := l) (nm := m.nm) (a := m.a) (b := m.b) (h := h) h1 h10
  have ht := p0S_to i m (doR l m.k m.nm m.a m.b h).2.2 v
  simp only [errS, decide_eq_false_iff_not] at he
  generalize (doR l m.k m.nm m.a m.b h).2.2 = e at h0 he ht
  have k1 : (p0S i m e v).k = m.k := rfl
  have k2 : (p0S i m e v).er = e := rfl
  generalize p0S i m e v = p at *
  unfold sortF
  rw [if_neg (by omega), if_neg (by omega)]
  by_cases c1 : p.er = 0 ∨ p.er = 110 ∨ p.er = 100 ∨ p.er = 101 ∨ p.er = 70
  · rw [if_pos c1]
  rw [if_neg c1]
  by_cases c2 : p.er = 61 ∧ (p.k = 1 ∨ p.k = 9 ∨ p.k = 10)
  · rw [if_pos c2]
  rw [if_neg c2, if_pos (by omega)]
theorem sort1 (h1 : 1 ≤ m.k) (h10 : m.k ≤ 10) (he : errS (doR l m.k m.nm m.a m.b h).2.2 m.k = true) (v : Int) : sortF (p0S i m (doR l m.k m.nm m.a m.b h).2.2 v) ≠ 2 := by
  have ht := p0S_to i m (doR l m.k m.nm m.a m.b h).2.2 v
  simp only [errS, decide_eq_true_eq] at he
  generalize (doR l m.k m.nm m.a m.b h).2.2 = e at he ht
  have k1 : (p0S i m e v).k = m.k := rfl
  have k2 : (p0S i m e v).er = e := rfl
  generalize p0S i m e v = p at *
  unfold sortF
  rw [if_neg (by omega), if_neg (by omega), if_neg (by omega), if_neg (by omega), if_neg (by omega)]
  split <;> decide
theorem expl1 (h1 : 1 ≤ m.k) (h10 : m.k ≤ 10) (he : errS (doR l m.k m.nm m.a m.b h).2.2 m.k = false) (v : Int) : explF (efS i m (doR l m.k m.nm m.a m.b h).2.2 v) (p1S i m (doR l m.k m.nm m.a m.b h).2.2 v) = true := by
  have hs := sort0 (i := i) h1 h10 he v
  have ht := p0S_to i m (doR l m.k m.nm m.a m.b h).2.2 v
  generalize (doR l m.k m.nm m.a m.b h).2.2 = e at *
  obtain ⟨c1, c2, c3, c4, c5, c6, c7⟩ := p1S_eq i m e v
  unfold explF
  simp only [Bool.and_eq_true, Bool.or_eq_true, Bool.not_eq_true', decide_eq_true_eq, decide_eq_false_iff_not]
  refine ⟨⟨⟨⟨c2, c3, c4, c5⟩, ?_⟩, ?_⟩, ?_⟩
  · rcases c7 with ho | e0
    · have ho' : (p1S i m e v).to = -1 ∨ (p1S i m e v).er = 111 := by simpa [openF] using ho
      unfold sortF
      rw [if_neg (by omega), if_pos ho']; decide
    · rw [e0, hs]; decide
  · rw [c6]; simp only [efS]; omega
  · rcases c7 with ho | e0
    · exact .inl ho
    · refine .inr ?_
      rw [e0]
      exact ⟨ht.2.2, rfl, rfl⟩
end

/-! ### The whole story -/
structure SQ (i : Nat) (s : Stry) : Prop where
  hb : ∀ p ∈ s.h, 0 ≤ p.se ∧ p.se < i ∧ okP p = true ∧ 0 ≤ p.fr ∧ p.fr ≤ 4 * (i : Int) ∧ p.to ≤ 4 * (i : Int) + 12
  nd : (calls s.h).Nodup
  ex : ∀ e ∈ s.fx, ∃ p ∈ s.h, p.call = e.call ∧ explF e p = true
  fb : ∀ e ∈ s.fx, 0 ≤ e.se ∧ e.se < i ∧ 0 ≤ e.sp ∧ e.sp ≤ 4 * (i : Int)
  up : s.fx.Pairwise fun d e => d.sp < e.sp
  fnd : (s.fx.map Ef.call).Nodup
  mu : ∀ p ∈ s.h, sortF p = 2 → ∃ e ∈ s.fx, e.call = p.call
  st : s.l = stR s.fx s.fx.length
  al : ∀ (j : Nat) (e : Ef), s.fx[j]? = some e → alR s.fx j e = true ∧ ∀ va, e.k ≠ 4 → va ≠ e.va → allowR (doR (stR s.fx j) e.k e.nm e.a e.b va) e.er va = false
theorem SQ.mono {i : Nat} {s : Stry} (q : SQ i s) : SQ (i + 1) s :=
  { q with
    hb := fun p hp => by obtain ⟨a, b, c, d, e, f⟩ := q.hb p hp; exact ⟨a, by omega, c, d, by omega, by omega⟩
    fb := fun p hp => by obtain ⟨a, b, c, d⟩ := q.fb p hp; exact ⟨a, by omega, c, by omega⟩ }
theorem stR_pre {E : List Ef} {e : Ef} {j : Nat} (h : j ≤ E.length) : stR (E ++ [e]) j = stR E j := by
  unfold stR
  rw [List.take_append_of_le_length h]
theorem okP0 {i : Nat} {m : Mv} {e v : Int} (h1 : 1 ≤ m.k) (h10 : m.k ≤ 10) : okP (p0S i m e v) = true := by
  have ht := p0S_to i m e v
  have k1 : (p0S i m e v).k = m.k := rfl
  simp only [okP, decide_eq_true_eq]
  omega
theorem okP1 {i : Nat} {m : Mv} {e v : Int} (h1 : 1 ≤ m.k) (h10 : m.k ≤ 10) : okP (p1S i m e v) = true := by
  have ht := p0S_to i m e v
  obtain ⟨c1, c2, c3, c4, c5, c6, c7⟩ := p1S_eq i m e v
  have ht1 := p1S_to i m e v
  simp only [okP, decide_eq_true_eq]
  omega
theorem p0S_hi (i : Nat) (m : Mv) (e v : Int) : (p0S i m e v).to ≤ 4 * ((i + 1 : Nat) : Int) + 12 ∧ (p0S i m e v).fr ≤ 4 * ((i + 1 : Nat) : Int) := by
  have h1 := within_in (x := m.wait) (show (0 : Int) < 12 by omega)
  have h2 := within_in (x := m.late) (show (0 : Int) < 12 by omega)
  simp only [p0S]
  omega
theorem SQ.newcall {i : Nat} {s : Stry} (q : SQ i s) {p : Pa} (hp : p.call = ((i : Int), 1)) : (calls (s.h ++ [p])).Nodup := by
  unfold calls
  rw [List.map_append, List.nodup_append]
  refine ⟨q.nd, by simp, fun a ha b hb => ?_⟩
  simp at hb
  obtain ⟨r, hr, rfl⟩ := List.mem_map.1 ha
  have := (q.hb r hr).2.1
  rw [hb, hp]
  intro e
  have : r.se = (i : Int) := congrArg Prod.fst e
  omega
theorem SQ.step {i : Nat} {s : Stry} (q : SQ i s) (m : Mv) : SQ (i + 1) (stepS s i m) := by
  unfold stepS
  by_cases hk : m.k < 1 ∨ 10 < m.k
  · rw [if_pos hk]; exact q.mono
  rw [if_neg hk]
  have h1 : 1 ≤ m.k := by omega
  have h10 : m.k ≤ 10 := by omega
  have qm := q.mono
  by_cases he : errS (doR s.l m.k m.nm m.a m.b (s.hold + 1)).2.2 m.k = true
  · rw [if_pos he]
    have hbad : (doR s.l m.k m.nm m.a m.b (s.hold + 1)).2.2 ≠ 0 := by
      simp only [errS, decide_eq_true_eq] at he; omega
    obtain ⟨e1, e2⟩ := doR_bad hbad
    have hs := sort1 (i := i) h1 h10 he (doR s.l m.k m.nm m.a m.b (s.hold + 1)).2.1
    have hok := okP0 (i := i) (m := m) (e := (doR s.l m.k m.nm m.a m.b (s.hold + 1)).2.2) (v := (doR s.l m.k m.nm m.a m.b (s.hold + 1)).2.1) h1 h10
    have hto := p0S_to i m (doR s.l m.k m.nm m.a m.b (s.hold + 1)).2.2 (doR s.l m.k m.nm m.a m.b (s.hold + 1)).2.1
    have hhi := p0S_hi i m (doR s.l m.k m.nm m.a m.b (s.hold + 1)).2.2 (doR s.l m.k m.nm m.a m.b (s.hold + 1)).2.1
    rw [e1]
    generalize hp : p0S i m (doR s.l m.k m.nm m.a m.b (s.hold + 1)).2.2 (doR s.l m.k m.nm m.a m.b (s.hold + 1)).2.1 = p at *
    have hc : p.call = ((i : Int), 1) := by rw [← hp]; rfl
    have hse : p.se = (i : Int) := congrArg Prod.fst hc
    refine { qm with hb := fun r hr => ?_, nd := q.newcall hc, ex := fun e he => ?_, mu := fun r hr h2 => ?_ }
    · rcases List.mem_append.1 hr with hr | hr
      · exact qm.hb r hr
      · simp at hr; subst hr; exact ⟨by omega, by omega, hok, hto.1, hhi.2, hhi.1⟩
    · obtain ⟨r, hr, h⟩ := q.ex e he
      exact ⟨r, List.mem_append.2 (.inl hr), h⟩
    · rcases List.mem_append.1 hr with hr | hr
      · exact q.mu r hr h2
      · simp at hr; subst hr; exact absurd h2 hs
  · rw [if_neg he]
    have he' : errS (doR s.l m.k m.nm m.a m.b (s.hold + 1)).2.2 m.k = false := by simpa using he
    have hx := expl1 (i := i) h1 h10 he' (doR s.l m.k m.nm m.a m.b (s.hold + 1)).2.1
    have hag := doR_again he'
    have hok := okP1 (i := i) (m := m) (e := (doR s.l m.k m.nm m.a m.b (s.hold + 1)).2.2) (v := (doR s.l m.k m.nm m.a m.b (s.hold + 1)).2.1) h1 h10
    have hto := p0S_to i m (doR s.l m.k m.nm m.a m.b (s.hold + 1)).2.2 (doR s.l m.k m.nm m.a m.b (s.hold + 1)).2.1
    have hhi := p0S_hi i m (doR s.l m.k m.nm m.a m.b (s.hold + 1)).2.2 (doR s.l m.k m.nm m.a m.b (s.hold + 1)).2.1
    have hto1 := p1S_to i m (doR s.l m.k m.nm m.a m.b (s.hold + 1)).2.2 (doR s.l m.k m.nm m.a m.b (s.hold + 1)).2.1
    obtain ⟨c1, c2, c3, c4, c5, c6, c7⟩ := p1S_eq i m (doR s.l m.k m.nm m.a m.b (s.hold + 1)).2.2 (doR s.l m.k m.nm m.a m.b (s.hold + 1)).2.1
    have hDe : ∀ va, m.k ≠ 4 → doR s.l m.k m.nm m.a m.b va = doR s.l m.k m.nm m.a m.b (s.hold + 1) := fun va h => doR_h h _ _
    have h11 : (doR s.l m.k m.nm m.a m.b (s.hold + 1)).2.2 ≠ 1 := by
      simp only [errS, decide_eq_false_iff_not] at he'; omega
    have hdup : ∀ e ∈ s.fx, e.call ≠ ((i : Int), 1) := fun e he h => by
      have := (q.fb e he).2.1
      have h' : e.se = (i : Int) := congrArg Prod.fst h
      omega
    generalize hp : p1S i m (doR s.l m.k m.nm m.a m.b (s.hold + 1)).2.2 (doR s.l m.k m.nm m.a m.b (s.hold + 1)).2.1 = p at *
    generalize hD : doR s.l m.k m.nm m.a m.b (s.hold + 1) = D at *
    have hse : p.se = (i : Int) := congrArg Prod.fst c1
    have hst : stR (s.fx ++ [efS i m D.2.2 D.2.1]) (s.fx.length + 1) = D.1 := by
      rw [stR_next (e := efS i m D.2.2 D.2.1) (by simp), stR_pre (Nat.le_refl _), ← q.st]
      show (if allowR (doR s.l m.k m.nm m.a m.b D.2.1) D.2.2 D.2.1 then (doR s.l m.k m.nm m.a m.b D.2.1).1 else s.l) = D.1
      rw [hag, if_pos (by simp [allowR, h11])]
    refine ⟨fun r hr => ?_, q.newcall c1, fun e he => ?_, fun e he => ?_, ?_, ?_, fun r hr h2 => ?_, ?_, fun j e hj => ?_⟩
    · rcases List.mem_append.1 hr with hr | hr
      · exact qm.hb r hr
      · simp at hr; subst hr; exact ⟨by omega, by omega, hok, by omega, by omega, by omega⟩
    · rcases List.mem_append.1 he with he | he
      · obtain ⟨r, hr, h⟩ := q.ex e he
        exact ⟨r, List.mem_append.2 (.inl hr), h⟩
      · simp at he; subst he
        exact ⟨p, by simp, c1, hx⟩
    · rcases List.mem_append.1 he with he | he
      · exact qm.fb e he
      · simp at he; subst he
        simp only [efS]; omega
    · rw [List.pairwise_append]
      refine ⟨q.up, by simp, fun a ha b hb => ?_⟩
      simp at hb; subst hb
      have := (q.fb a ha).2.2.2
      simp only [efS]; omega
    · rw [List.map_append, List.nodup_append]
      refine ⟨q.fnd, by simp, fun a ha b hb => ?_⟩
      simp at hb; subst hb
      obtain ⟨r, hr, rfl⟩ := List.mem_map.1 ha
      exact hdup r hr
    · rcases List.mem_append.1 hr with hr | hr
      · obtain ⟨e, he, h⟩ := q.mu r hr h2
        exact ⟨e, List.mem_append.2 (.inl he), h⟩
      · simp at hr; subst hr
        exact ⟨efS i m D.2.2 D.2.1, by simp, c1.symm⟩
    · rw [show (s.fx ++ [efS i m D.2.2 D.2.1]).length = s.fx.length + 1 by simp, hst]
    · rcases Nat.lt_or_ge j s.fx.length with hjl | hjl
      · rw [List.getElem?_append_left hjl] at hj
        have := q.al j e hj
        unfold alR at this ⊢
        rw [stR_pre (by omega)]
        exact this
      · have hj0 : j = s.fx.length := by have := (List.getElem?_eq_some_iff.1 hj).1; simp at this; omega
        subst hj0
        simp at hj; subst hj
        unfold alR
        rw [stR_pre (Nat.le_refl _), ← q.st]
        refine ⟨?_, fun va h4 hva => ?_⟩
        · show allowR (doR s.l m.k m.nm m.a m.b D.2.1) D.2.2 D.2.1 = true
          rw [hag]; simp [allowR, h11]
        · show allowR (doR s.l m.k m.nm m.a m.b va) D.2.2 va = false
          have hva' : va ≠ D.2.1 := hva
          rw [hDe va h4]
          simp [allowR, Ne.symm hva']
theorem sq_all (l : List Mv) : ∀ i, SQ i (storyT l i)
  | 0 => ⟨by simp [storyT], by simp [storyT, calls], by simp [storyT], by simp [storyT], by simp [storyT], by simp [storyT], by simp [storyT], rfl, by simp [storyT]⟩
  | i + 1 => by
    rw [storyT]
    split
    · exact (sq_all l i).step _
    · exact (sq_all l i).mono

/-! ### What Verify says -/
theorem verF_ok {L : List Pa} {E : List Ef} {al : Nat → Ef → Bool} (hr : rightH L = true) (hv : ∀ j, j < E.length → vOk L E al j = true) (hm : ∀ j, j < L.length → mOk L E j = true) : verF L E al = (0, 0) := by
  unfold verF
  rw [if_neg (by rw [hr]; simp), firstBadN_none hv]
  dsimp only
  rw [firstBadN_none hm]
theorem firstBadN_ex {n i : Nat} {p : Nat → Bool} (hi : i < n) (hb : p i = false) : ∃ j, firstBadN n p = some j ∧ j < n := by
  cases h : firstBadN n p with
  | none =>
    unfold firstBadN at h
    rw [List.find?_eq_none] at h
    have := h i (List.mem_range.2 hi)
    simp [hb] at this
  | some j =>
    refine ⟨j, rfl, ?_⟩
    unfold firstBadN at h
    exact List.mem_range.1 (List.mem_of_find?_eq_some h)
theorem verF_bad {L : List Pa} {E : List Ef} {al : Nat → Ef → Bool} (hr : rightH L = true) (hb : (∃ j, j < E.length ∧ vOk L E al j = false) ∨ ∃ j, j < L.length ∧ mOk L E j = false) : ∃ n : Nat, verF L E al = ((n : Int), 170) ∧ n < E.length + L.length := by
  unfold verF
  rw [if_neg (by rw [hr]; simp)]
  cases h : firstBadN E.length (vOk L E al) with
  | some j =>
    have : j < E.length := by
      unfold firstBadN at h
      exact List.mem_range.1 (List.mem_of_find?_eq_some h)
    exact ⟨j, rfl, by omega⟩
  | none =>
    dsimp only
    rcases hb with ⟨j, hj, hv⟩ | ⟨j, hj, hv⟩
    · obtain ⟨j', e, _⟩ := firstBadN_ex hj hv
      rw [h] at e; cases e
    · obtain ⟨j', e, hl⟩ := firstBadN_ex hj hv
      rw [e]
      exact ⟨E.length + j', by simp, by omega⟩
section
variable {i : Nat} {s : Stry}
theorem SQ.right (q : SQ i s) : rightH s.h = true := by
  refine rightH_true fun j hj => ?_
  unfold okAt
  rw [List.getElem?_eq_getElem hj]
  simp only [Bool.and_eq_true, Bool.not_eq_true']
  refine ⟨(q.hb _ (List.getElem_mem hj)).2.2.1, ?_⟩
  rw [List.contains_eq_any_beq, List.any_eq_false]
  intro c hc
  have hnd := q.nd
  rw [← List.take_append_drop j s.h] at hnd
  unfold calls at hnd hc
  rw [List.map_append, List.nodup_append] at hnd
  have := hnd.2.2 c hc s.h[j].call (List.mem_map.2 ⟨s.h[j], by rw [List.drop_eq_getElem_cons hj]; exact List.mem_cons_self, rfl⟩)
  simpa using fun e => this e.symm
/-- Where a call stands. -/
def placeN (L : List Pa) (c : Int × Int) : Nat := (L.findIdx? fun p => decide (p.call = c)).getD 0
theorem SQ.at_ (q : SQ i s) {e : Ef} (he : e ∈ s.fx) : ∃ p, s.h[placeN s.h e.call]? = some p ∧ placeP s.h e.call = some p ∧ p.call = e.call ∧ explF e p = true := by
  obtain ⟨p, hp, hc, hx⟩ := q.ex e he
  have huniq : ∀ r ∈ s.h, r.call = e.call → r = p := by
    intro r hr hrc
    obtain ⟨a, ha⟩ := List.getElem?_of_mem hr
    obtain ⟨b, hb⟩ := List.getElem?_of_mem hp
    have hal := (List.getElem?_eq_some_iff.1 ha).1
    have : a = b := by
      refine (List.getElem?_inj (l := calls s.h) (by simpa using hal) q.nd).1 ?_
      rw [List.getElem?_map, List.getElem?_map, ha, hb]
      exact congrArg some (hrc.trans hc.symm)
    subst this
    rw [ha] at hb; simpa using hb
  have hpl : placeP s.h e.call = some p := by
    unfold placeP
    cases hf : s.h.find? (fun p => decide (p.call = e.call)) with
    | none =>
      rw [List.find?_eq_none] at hf
      have := hf p hp
      simp [hc] at this
    | some r => rw [huniq r (List.mem_of_find?_eq_some hf) (by simpa using List.find?_some hf)]
  refine ⟨p, ?_, hpl, hc, hx⟩
  unfold placeN
  cases hf : s.h.findIdx? (fun p => decide (p.call = e.call)) with
  | none =>
    rw [List.findIdx?_eq_none_iff] at hf
    have := hf p hp
    simp [hc] at this
  | some n =>
    obtain ⟨hn, h1, _⟩ := List.findIdx?_eq_some_iff_getElem.1 hf
    simp only [Option.getD_some]
    rw [List.getElem?_eq_getElem hn]
    exact congrArg some (huniq _ (List.getElem_mem hn) (by simpa using h1))
theorem SQ.had (q : SQ i s) {k : Nat} {e : Ef} (hk : s.fx[k]? = some e) : hadF s.fx k e.call = false := by
  unfold hadF
  rw [List.contains_eq_any_beq, List.any_eq_false]
  intro c hc
  have hkl := (List.getElem?_eq_some_iff.1 hk).1
  have hnd := q.fnd
  rw [← List.take_append_drop k s.fx, List.map_append, List.nodup_append] at hnd
  have := hnd.2.2 c hc e.call (List.mem_map.2 ⟨e, by rw [List.drop_eq_getElem_cons hkl, (List.getElem?_eq_some_iff.1 hk).2]; simp, rfl⟩)
  simpa using fun e => this e.symm
theorem SQ.verified (q : SQ i s) : verF s.h s.fx (alR s.fx) = (0, 0) := by
  refine verF_ok q.right (fun j hj => ?_) fun j hj => ?_
  · have hx : s.fx[j]? = some s.fx[j] := List.getElem?_eq_getElem hj
    have hm := List.getElem_mem hj
    have hup : ∀ d, 0 < j → s.fx[j - 1]? = some d → d.sp < s.fx[j].sp := fun d h0 hd => by
      have := (List.getElem?_eq_some_iff.1 hd)
      obtain ⟨h1, h2⟩ := this
      have := List.pairwise_iff_getElem.1 q.up (j - 1) j h1 hj (by omega)
      rw [h2] at this; exact this
    generalize s.fx[j] = e at hx hm hup
    obtain ⟨p, _, h2, _, h4⟩ := q.at_ hm
    have hb := q.fb e hm
    unfold vOk
    rw [hx]
    simp only [Bool.and_eq_true]
    refine ⟨?_, (q.al j e hx).1⟩
    unfold fitsF
    rw [if_neg (by omega)]
    simp only [Bool.and_eq_true]
    refine ⟨?_, ?_⟩
    · unfold stepF
      simp only [Bool.and_eq_true, Bool.not_eq_true', decide_eq_false_iff_not, Bool.or_eq_true, beq_iff_eq]
      refine ⟨by omega, ?_⟩
      rcases Nat.eq_zero_or_pos j with h | h
      · exact .inl h
      · right
        split
        · rename_i d hd
          have := hup d h hd
          simp; omega
        · rfl
    · unfold callF
      rw [h2]
      dsimp only
      rw [h4, q.had hx]; rfl
  · unfold mOk
    rw [List.getElem?_eq_getElem hj]
    simp only [Bool.not_eq_true', Bool.and_eq_false_iff, decide_eq_false_iff_not, Bool.not_eq_false']
    by_cases h2 : sortF s.h[j] = 2
    · right
      obtain ⟨e, he, hc⟩ := q.mu _ (List.getElem_mem hj) h2
      unfold thereF
      rw [List.any_eq_true]
      exact ⟨e, he, decide_eq_true ⟨(q.fb e he).1, hc⟩⟩
    · exact .inl h2
/-- An effect less. -/
theorem SQ.less (q : SQ i s) {k : Nat} {e : Ef} (hk : s.fx[k]? = some e) {p : Pa} (hp : s.h[placeN s.h e.call]? = some p) (h2 : sortF p = 2) (al : Nat → Ef → Bool) :
    ∃ n : Nat, verF s.h (s.fx.take k ++ s.fx.drop (k + 1)) al = ((n : Int), 170) ∧ n < (s.fx.take k ++ s.fx.drop (k + 1)).length + s.h.length := by
  have hkl := (List.getElem?_eq_some_iff.1 hk).1
  obtain ⟨p', h1, _, h3, _⟩ := q.at_ (List.mem_of_getElem? hk)
  rw [hp] at h1; simp at h1; subst h1
  refine verF_bad q.right (.inr ⟨placeN s.h e.call, (List.getElem?_eq_some_iff.1 hp).1, ?_⟩)
  unfold mOk
  rw [hp]
  simp only [h2, Bool.not_eq_false', Bool.and_eq_true, decide_eq_true_eq, Bool.not_eq_true', true_and]
  unfold thereF
  rw [List.any_eq_false]
  intro d hd hc
  simp only [decide_eq_true_eq] at hc
  have hnd := q.fnd
  have hsplit : s.fx = s.fx.take k ++ e :: s.fx.drop (k + 1) := by
    conv => lhs; rw [← List.take_append_drop k s.fx, List.drop_eq_getElem_cons hkl, (List.getElem?_eq_some_iff.1 hk).2]
  rw [hsplit, List.map_append, List.map_cons, List.nodup_append, List.nodup_cons] at hnd
  have hdc : d.call = e.call := hc.2.trans h3
  rcases List.mem_append.1 hd with hd | hd
  · exact hnd.2.2 d.call (List.mem_map.2 ⟨d, hd, rfl⟩) e.call (by simp) hdc
  · exact hnd.2.1.1 (hdc ▸ List.mem_map.2 ⟨d, hd, rfl⟩)
/-- One twice. -/
theorem SQ.twice (q : SQ i s) {k : Nat} {e e' : Ef} (hk : s.fx[k]? = some e) (hc : e'.call = e.call) (al : Nat → Ef → Bool) :
    ∃ n : Nat, verF s.h (s.fx ++ [e']) al = ((n : Int), 170) ∧ n < (s.fx ++ [e']).length + s.h.length := by
  obtain ⟨p, _, h2, _, _⟩ := q.at_ (List.mem_of_getElem? hk)
  have hb := q.fb e (List.mem_of_getElem? hk)
  have hse : e'.se = e.se := congrArg Prod.fst hc
  refine verF_bad q.right (.inl ⟨s.fx.length, by simp, ?_⟩)
  unfold vOk
  rw [List.getElem?_append_right (Nat.le_refl _)]
  simp only [Nat.sub_self, List.getElem?_cons_zero]
  have : callF s.h (s.fx ++ [e']) s.fx.length e' = false := by
    unfold callF
    rw [hc, h2]
    dsimp only
    have : hadF (s.fx ++ [e']) s.fx.length e.call = true := by
      unfold hadF
      rw [List.take_append_of_le_length (Nat.le_refl _), List.take_length]
      rw [List.contains_iff_mem]
      exact List.mem_map.2 ⟨e, List.mem_of_getElem? hk, rfl⟩
    rw [this]; simp
  unfold fitsF
  rw [if_neg (by omega), this]
  simp
/-- One of them otherwise. -/
theorem SQ.turned (q : SQ i s) {k : Nat} {e e' : Ef} (hk : s.fx[k]? = some e) (hc : e'.call = e.call) (hb : ∀ p, placeP s.h e.call = some p → explF e p = true → explF e' p = false ∨ alR (s.fx.set k e') k e' = false) :
    ∃ n : Nat, verF s.h (s.fx.set k e') (alR (s.fx.set k e')) = ((n : Int), 170) ∧ n < (s.fx.set k e').length + s.h.length := by
  have hkl := (List.getElem?_eq_some_iff.1 hk).1
  obtain ⟨p, _, h2, _, h4⟩ := q.at_ (List.mem_of_getElem? hk)
  have hb0 := q.fb e (List.mem_of_getElem? hk)
  have hse : e'.se = e.se := congrArg Prod.fst hc
  refine verF_bad q.right (.inl ⟨k, by simpa using hkl, ?_⟩)
  unfold vOk
  rw [List.getElem?_set_self hkl]
  dsimp only
  rcases hb p h2 h4 with h | h
  · have : callF s.h (s.fx.set k e') k e' = false := by
      unfold callF
      rw [hc, h2]
      dsimp only
      rw [h]; rfl
    unfold fitsF
    rw [if_neg (by omega), this]
    simp
  · rw [h]; simp
theorem stR_set (E : List Ef) (k : Nat) (e : Ef) : stR (E.set k e) k = stR E k := by
  unfold stR
  rw [List.take_set_of_le (Nat.le_refl _)]
/-- Another answer. -/
theorem SQ.value (q : SQ i s) {k : Nat} {e : Ef} (hk : s.fx[k]? = some e) {p : Pa} (hp : s.h[placeN s.h e.call]? = some p) (h4 : ¬ (p.k = 4 ∧ (p.to < 0 ∨ p.er = 111))) {va : Int} (hva : va ≠ e.va) :
    ∃ n : Nat, verF s.h (s.fx.set k { e with va := va }) (alR (s.fx.set k { e with va := va })) = ((n : Int), 170) ∧ n < (s.fx.set k { e with va := va }).length + s.h.length := by
  obtain ⟨p', h1, h2, _, _⟩ := q.at_ (List.mem_of_getElem? hk)
  rw [hp] at h1; simp at h1; subst h1
  refine q.turned hk rfl fun r hr hx => ?_
  rw [h2] at hr; simp at hr; subst hr
  have hkk : p.k = e.k := by
    unfold explF at hx
    simp only [Bool.and_eq_true, decide_eq_true_eq] at hx
    exact hx.1.1.1.1
  by_cases ho : openF p = true
  · right
    have ho' : p.to = -1 ∨ p.er = 111 := by simpa [openF] using ho
    have h := (q.al k e hk).2 va (by omega) hva
    unfold alR
    rw [stR_set]
    exact h
  · left
    simp only [Bool.not_eq_true] at ho
    unfold explF at hx ⊢
    rw [ho] at hx ⊢
    simp only [Bool.and_eq_true, Bool.false_or, decide_eq_true_eq] at hx
    have : ¬ (va = p.va) := fun h => hva (h.trans hx.2.2.2.symm)
    simp [this]
/-- Later than its answer. -/
theorem SQ.late (q : SQ i s) {k : Nat} {e : Ef} (hk : s.fx[k]? = some e) {p : Pa} (hp : s.h[placeN s.h e.call]? = some p) (h4 : ¬ (p.to < 0 ∨ p.er = 111)) {sp : Int} (hsp : p.to < sp) :
    ∃ n : Nat, verF s.h (s.fx.set k { e with sp := sp }) (alR (s.fx.set k { e with sp := sp })) = ((n : Int), 170) ∧ n < (s.fx.set k { e with sp := sp }).length + s.h.length := by
  obtain ⟨p', h1, h2, _, _⟩ := q.at_ (List.mem_of_getElem? hk)
  rw [hp] at h1; simp at h1; subst h1
  refine q.turned hk rfl fun r hr hx => .inl ?_
  rw [h2] at hr; simp at hr; subst hr
  have ho : openF p = false := by simp only [openF, decide_eq_false_iff_not]; omega
  unfold explF
  rw [ho]
  have : ¬ sp ≤ p.to := by omega
  simp [this]
/-- Ahead of its coming. -/
theorem SQ.early (q : SQ i s) {k : Nat} {e : Ef} (hk : s.fx[k]? = some e) {p : Pa} (hp : s.h[placeN s.h e.call]? = some p) {sp : Int} (hsp : sp < p.fr) :
    ∃ n : Nat, verF s.h (s.fx.set k { e with sp := sp }) (alR (s.fx.set k { e with sp := sp })) = ((n : Int), 170) ∧ n < (s.fx.set k { e with sp := sp }).length + s.h.length := by
  obtain ⟨p', h1, h2, _, _⟩ := q.at_ (List.mem_of_getElem? hk)
  rw [hp] at h1; simp at h1; subst h1
  refine q.turned hk rfl fun r hr hx => .inl ?_
  rw [h2] at hr; simp at hr; subst hr
  unfold explF
  simp [hsp]
end

/-! ### Numbers that fit -/
theorem doneF_val {c : Rk} (hc : c.ok) {k a b h : Int} (ha : i64 a) (hh : i64 h) : i64 (doneF c k a b h).2.1 := by
  have h0 : i64 0 := ⟨by decide, by decide⟩
  have h1 := hc.in_
  have hv : i64 c.v := ⟨by have := h1.v; omega, by have := h1.v; omega⟩
  have hm := amountR_in h1.m a
  have hm' : i64 (amountR c.holds a) := ⟨by omega, by omega⟩
  unfold doneF
  repeat' split
  all_goals first | exact h0 | exact hh | exact ha | exact hv | exact hm'
theorem doR_val {l : List Rk} (hl : ∀ c ∈ l, c.ok) {k : Int} {nm : ByteArray} {a b h : Int} (ha : i64 a) (hh : i64 h) : i64 (doR l k nm a b h).2.1 := by
  have h0 : i64 0 := ⟨by decide, by decide⟩
  unfold doR
  by_cases hr : rightB k nm a b = false
  · rw [if_pos hr]; exact h0
  rw [if_neg hr]
  by_cases hk : k = 1
  · rw [if_pos hk]
    repeat' split
    all_goals exact h0
  rw [if_neg hk]
  cases hc : (kfind l nm).bind (l[·]?) with
  | none => exact h0
  | some c =>
    dsimp only
    have hcl : c ∈ l := by
      cases hf : kfind l nm with
      | none => rw [hf] at hc; cases hc
      | some j => rw [hf] at hc; exact List.mem_of_getElem? hc
    split
    · exact h0
    · exact doneF_val (hl c hcl) ha hh
theorem sg_all {l : List Mv} (hg : ∀ m ∈ l, m.good) : ∀ i, i ≤ 1048576 → (∀ p ∈ (storyT l i).h, p.good) ∧ ∀ e ∈ (storyT l i).fx, e.good
  | 0, _ => by simp [storyT]
  | i + 1, hi => by
    obtain ⟨h1, h2⟩ := sg_all hg i (by omega)
    have hin := storyT_in l i
    rw [storyT]
    split
    · rename_i m hm
      have mg := hg m (List.mem_of_getElem? hm)
      obtain ⟨_, _, b3, b4, b5, _⟩ := hin
      have hv : i64 (doR (storyT l i).l m.k m.nm m.a m.b ((storyT l i).hold + 1)).2.1 := doR_val (fun c hc => (b5 c hc).1) mg.a ⟨by omega, by omega⟩
      have hse : i64 (i : Int) := ⟨by omega, by omega⟩
      have h1' : i64 1 := ⟨by decide, by decide⟩
      have h0' : i64 0 := ⟨by decide, by decide⟩
      unfold stepS
      split
      · exact ⟨h1, h2⟩
      · split
        · refine ⟨fun p hp => ?_, h2⟩
          rcases List.mem_append.1 hp with hp | hp
          · exact h1 p hp
          · simp at hp; subst hp
            exact ⟨hse, h1', mg.nm, mg.a, hv⟩
        · refine ⟨fun p hp => ?_, fun e he => ?_⟩
          · rcases List.mem_append.1 hp with hp | hp
            · exact h1 p hp
            · simp at hp; subst hp
              unfold p1S
              split
              · exact ⟨hse, h1', mg.nm, mg.a, h0'⟩
              · split
                · exact ⟨hse, h1', mg.nm, mg.a, h0'⟩
                · exact ⟨hse, h1', mg.nm, mg.a, hv⟩
          · rcases List.mem_append.1 he with he | he
            · exact h2 e he
            · simp at he; subst he
              exact ⟨hse, h1', mg.nm, mg.a, hv⟩
    · exact ⟨h1, h2⟩
theorem wrap_ne {n : Int} (h : i64 n) : IntKind.i64.wrap (n + 1) ≠ n ∧ i64 (IntKind.i64.wrap (n + 1)) := by
  obtain ⟨h1, h2⟩ := h
  by_cases hm : n = 9223372036854775807
  · subst hm
    exact ⟨by decide, by decide, by decide⟩
  · rw [w64 (by omega) (by omega)]
    exact ⟨by omega, by omega, by omega⟩
end
end Go.Proofs.Ytfcbcgjgkleonaa
