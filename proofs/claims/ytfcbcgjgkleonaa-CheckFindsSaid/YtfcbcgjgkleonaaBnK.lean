/- Chapter 17's law, plain: what a state of a search hangs on; the numbers of holds that nobody names. Chapter 17's law, plain: a call's answer hangs on the calls that stand and on what Peek tells. -/
import Derived.Test.YtfcbcgjgkleonaaBnP
import Derived.Test.YtfcbcgjgkleonaaCkQ
namespace Go.Proofs.Ytfcbcgjgkleonaa
section
set_option linter.unusedSimpArgs false
set_option linter.unusedVariables false
open Go.RowKit

abbrev pAt (L : List Pa) (i : Nat) : Pa := L.getD i Pa.zero
def okS (p : Pa) : Prop := (sortF p = 2 ∧ p.er = 0) ∨ sortF p = 1
def Ex (L : List Pa) (st : Nat) (Q : Nat → Prop) : Prop := ∃ j, j < L.length ∧ st.testBit j = true ∧ Q j
def hqP (L : List Pa) (nm : ByteArray) (j : Nat) : Prop := (pAt L j).k = 4 ∧ (pAt L j).nm = nm ∧ okS (pAt L j)
def eqP (L : List Pa) (nm : ByteArray) (j : Nat) : Prop := ((pAt L j).k = 5 ∨ (pAt L j).k = 6) ∧ (pAt L j).nm = nm ∧ okS (pAt L j)
def mqP (L : List Pa) (nm : ByteArray) (j : Nat) : Prop := (pAt L j).k = 1 ∧ (pAt L j).nm = nm ∧ okS (pAt L j)
def usedP (L : List Pa) (ν : Nat → Int) (st : Nat) (nm : ByteArray) (n : Int) : Prop := Ex L st fun j => hqP L nm j ∧ ν j = n
def endP (L : List Pa) (st : Nat) (nm : ByteArray) (n : Int) : Prop := Ex L st fun j => eqP L nm j ∧ (pAt L j).a = n
def madeP (L : List Pa) (st : Nat) (nm : ByteArray) : Prop := Ex L st (mqP L nm)
theorem bit_add (st i j : Nat) : (st ||| 2 ^ i).testBit j = true ↔ st.testBit j = true ∨ j = i := by
  rw [Nat.testBit_or, Nat.testBit_two_pow, Bool.or_eq_true, decide_eq_true_eq, @eq_comm _ i j]
theorem ex_add {L : List Pa} {st i : Nat} {Q : Nat → Prop} (hi : i < L.length) : Ex L (st ||| 2 ^ i) Q ↔ Ex L st Q ∨ Q i := by
  constructor
  · rintro ⟨j, hj, hb, hq⟩
    rcases (bit_add st i j).1 hb with h | rfl
    · exact .inl ⟨j, hj, h, hq⟩
    · exact .inr hq
  · rintro (⟨j, hj, hb, hq⟩ | hq)
    · exact ⟨j, hj, (bit_add st i j).2 (.inl hb), hq⟩
    · exact ⟨i, hi, (bit_add st i i).2 (.inr rfl), hq⟩

/-- What the calls that stand have left. -/
structure KS (L : List Pa) (ν : Nat → Int) (st : Nat) (A : All) : Prop where
  pres : ∀ nm, (mget A nm).isSome = true ↔ madeP L st nm
  used : ∀ nm s, mget A nm = some s → ∀ n, (mget s.holds n).isSome = true ↔ usedP L ν st nm n
  amt0 : ∀ nm s, mget A nm = some s → ∀ j, j < L.length → st.testBit j = true → hqP L nm j → endP L st nm (ν j) → s.had (ν j) = 0
  amt1 : ∀ nm s, mget A nm = some s → ∀ j, j < L.length → st.testBit j = true → hqP L nm j → ¬ endP L st nm (ν j) → s.had (ν j) = (pAt L j).a
  un : ∀ nm n, usedP L ν st nm n → madeP L st nm
  en : ∀ nm n, endP L st nm n → usedP L ν st nm n
theorem ex_zero {L : List Pa} {Q : Nat → Prop} : ¬ Ex L 0 Q := by
  rintro ⟨j, _, hb, _⟩; simp at hb
theorem KS.nil (L : List Pa) (ν : Nat → Int) : KS L ν 0 [] where
  pres nm := ⟨fun h => by simp [mget] at h, fun h => absurd h ex_zero⟩
  used nm s h := by simp [mget] at h
  amt0 nm s h := by simp [mget] at h
  amt1 nm s h := by simp [mget] at h
  un nm n h := absurd h ex_zero
  en nm n h := absurd h ex_zero

def doN (L : List Pa) (ν : Nat → Int) (A : All) (i : Nat) : All × Int × Int := doF A 0 (pAt L i).k (pAt L i).nm (pAt L i).a (pAt L i).b (ν i)
/-- A map whose counters are alike has the same facts. -/
theorem KS.like {L : List Pa} {ν : Nat → Int} {st : Nat} {A A' : All} (K : KS L ν st A) (h : ∀ nm, mget A' nm = mget A nm) : KS L ν st A' where
  pres nm := by rw [h]; exact K.pres nm
  used nm s hs := K.used nm s (by rw [← h]; exact hs)
  amt0 nm s hs := K.amt0 nm s (by rw [← h]; exact hs)
  amt1 nm s hs := K.amt1 nm s (by rw [← h]; exact hs)
  un := K.un
  en := K.en
/-- A call that has no effect leaves the facts. -/
theorem KS.idle {L : List Pa} {ν : Nat → Int} {st i : Nat} {A : All} (K : KS L ν st A) (hi : i < L.length) (hn : ¬ okS (pAt L i)) : KS L ν (st ||| 2 ^ i) A := by
  have h1 : ∀ nm n, usedP L ν (st ||| 2 ^ i) nm n ↔ usedP L ν st nm n := fun nm n => by
    unfold usedP; rw [ex_add hi]
    exact ⟨fun h => h.resolve_right fun h => hn h.1.2.2, .inl⟩
  have h2 : ∀ nm n, endP L (st ||| 2 ^ i) nm n ↔ endP L st nm n := fun nm n => by
    unfold endP; rw [ex_add hi]
    exact ⟨fun h => h.resolve_right fun h => hn h.1.2.2, .inl⟩
  have h3 : ∀ nm, madeP L (st ||| 2 ^ i) nm ↔ madeP L st nm := fun nm => by
    unfold madeP; rw [ex_add hi]
    exact ⟨fun h => h.resolve_right fun h => hn h.2.2, .inl⟩
  have hb : ∀ nm j, (st ||| 2 ^ i).testBit j = true → hqP L nm j → st.testBit j = true := fun nm j hj hq => by
    rcases (bit_add st i j).1 hj with h | rfl
    · exact h
    · exact absurd hq.2.2 hn
  exact ⟨fun nm => by rw [h3]; exact K.pres nm, fun nm s hs n => by rw [h1]; exact K.used nm s hs n,
    fun nm s hs j hj hbj hq he => K.amt0 nm s hs j hj (hb nm j hbj hq) hq ((h2 _ _).1 he), fun nm s hs j hj hbj hq he => K.amt1 nm s hs j hj (hb nm j hbj hq) hq fun h => he ((h2 _ _).2 h),
    fun nm n h => (h3 nm).2 (K.un nm n ((h1 nm n).1 h)), fun nm n h => (h1 nm n).2 (K.en nm n ((h2 nm n).1 h))⟩
/-- A call on a counter that is there, and no hold, no end of one. -/
theorem KS.plain {L : List Pa} {ν : Nat → Int} {st i : Nat} {A : All} (K : KS L ν st A) (hi : i < L.length) {s s' : Ctr} (hs : mget A (pAt L i).nm = some s) (hh : s'.holds = s.holds) (k4 : (pAt L i).k ≠ 4) (k5 : (pAt L i).k ≠ 5) (k6 : (pAt L i).k ≠ 6) :
    KS L ν (st ||| 2 ^ i) (mput A (pAt L i).nm s') := by
  have h1 : ∀ nm n, usedP L ν (st ||| 2 ^ i) nm n ↔ usedP L ν st nm n := fun nm n => by
    unfold usedP; rw [ex_add hi]
    exact ⟨fun h => h.resolve_right fun h => k4 h.1.1, .inl⟩
  have h2 : ∀ nm n, endP L (st ||| 2 ^ i) nm n ↔ endP L st nm n := fun nm n => by
    unfold endP; rw [ex_add hi]
    exact ⟨fun h => h.resolve_right fun h => h.1.1.elim k5 k6, .inl⟩
  have h3 : ∀ nm, madeP L (st ||| 2 ^ i) nm ↔ madeP L st nm := fun nm => by
    unfold madeP; rw [ex_add hi]
    refine ⟨fun h => h.elim id fun h => ?_, .inl⟩
    rw [← h.2.1]; exact (K.pres _).1 (by rw [hs]; rfl)
  have hb : ∀ nm j, (st ||| 2 ^ i).testBit j = true → hqP L nm j → st.testBit j = true := fun nm j hj hq => by
    rcases (bit_add st i j).1 hj with h | rfl
    · exact h
    · exact absurd hq.1 k4
  have hg : ∀ nm t, mget (mput A (pAt L i).nm s') nm = some t → ∃ u, mget A nm = some u ∧ t.holds = u.holds := fun nm t ht => by
    rw [mget_put] at ht
    split at ht
    · rename_i e; subst e; simp at ht; subst ht; exact ⟨s, hs, hh⟩
    · exact ⟨t, ht, rfl⟩
  refine ⟨fun nm => ?_, fun nm t ht n => ?_, fun nm t ht j hj hbj hq he => ?_, fun nm t ht j hj hbj hq he => ?_, fun nm n h => (h3 nm).2 (K.un nm n ((h1 nm n).1 h)), fun nm n h => (h1 nm n).2 (K.en nm n ((h2 nm n).1 h))⟩
  · rw [h3, ← K.pres nm, mget_put]
    by_cases e : (pAt L i).nm = nm
    · rw [if_pos e, ← e, hs]; simp
    · rw [if_neg e]
  · obtain ⟨u, hu, e⟩ := hg nm t ht
    rw [h1, e]; exact K.used nm u hu n
  · obtain ⟨u, hu, e⟩ := hg nm t ht
    have := K.amt0 nm u hu j hj (hb nm j hbj hq) hq ((h2 _ _).1 he)
    unfold Ctr.had at this ⊢; rw [e]; exact this
  · obtain ⟨u, hu, e⟩ := hg nm t ht
    have := K.amt1 nm u hu j hj (hb nm j hbj hq) hq fun h => he ((h2 _ _).2 h)
    unfold Ctr.had at this ⊢; rw [e]; exact this
/-- A counter is made. -/
theorem KS.make {L : List Pa} {ν : Nat → Int} {st i : Nat} {A : All} (K : KS L ν st A) (hi : i < L.length) {s' : Ctr} (hs : mget A (pAt L i).nm = none) (hh : s'.holds = []) (k1 : (pAt L i).k = 1) (ho : okS (pAt L i)) :
    KS L ν (st ||| 2 ^ i) (mput A (pAt L i).nm s') := by
  have h1 : ∀ nm n, usedP L ν (st ||| 2 ^ i) nm n ↔ usedP L ν st nm n := fun nm n => by
    unfold usedP; rw [ex_add hi]
    exact ⟨fun h => h.resolve_right fun h => by have := h.1.1; omega, .inl⟩
  have h2 : ∀ nm n, endP L (st ||| 2 ^ i) nm n ↔ endP L st nm n := fun nm n => by
    unfold endP; rw [ex_add hi]
    exact ⟨fun h => h.resolve_right fun h => by have := h.1.1; omega, .inl⟩
  have h3 : ∀ nm, madeP L (st ||| 2 ^ i) nm ↔ madeP L st nm ∨ (pAt L i).nm = nm := fun nm => by
    unfold madeP; rw [ex_add hi]
    exact ⟨fun h => h.imp id fun h => h.2.1, fun h => h.imp id fun h => ⟨k1, h, ho⟩⟩
  have hb : ∀ nm j, (st ||| 2 ^ i).testBit j = true → hqP L nm j → st.testBit j = true := fun nm j hj hq => by
    rcases (bit_add st i j).1 hj with h | rfl
    · exact h
    · exact absurd hq.1 (by omega)
  have hno : ∀ n, ¬ usedP L ν st (pAt L i).nm n := fun n h => by
    have := (K.pres _).2 (K.un _ n h)
    rw [hs] at this; cases this
  have hg : ∀ nm t, mget (mput A (pAt L i).nm s') nm = some t → nm = (pAt L i).nm ∧ t = s' ∨ mget A nm = some t := fun nm t ht => by
    rw [mget_put] at ht
    split at ht
    · rename_i e; simp at ht; exact .inl ⟨e.symm, ht.symm⟩
    · exact .inr ht
  refine ⟨fun nm => ?_, fun nm t ht n => ?_, fun nm t ht j hj hbj hq he => ?_, fun nm t ht j hj hbj hq he => ?_, fun nm n h => (h3 nm).2 (.inl (K.un nm n ((h1 nm n).1 h))), fun nm n h => (h1 nm n).2 (K.en nm n ((h2 nm n).1 h))⟩
  · rw [h3, ← K.pres nm, mget_put]
    by_cases e : (pAt L i).nm = nm
    · rw [if_pos e]; exact ⟨fun _ => .inr e, fun _ => rfl⟩
    · rw [if_neg e]; exact ⟨.inl, fun h => h.resolve_right e⟩
  · rw [h1]
    rcases hg nm t ht with ⟨rfl, rfl⟩ | ht
    · rw [hh]; exact ⟨fun h => by simp [mget] at h, fun h => absurd h (hno n)⟩
    · exact K.used nm t ht n
  · rcases hg nm t ht with ⟨rfl, rfl⟩ | ht
    · exact absurd ⟨j, hj, hb _ j hbj hq, hq, rfl⟩ (hno (ν j))
    · exact K.amt0 nm t ht j hj (hb nm j hbj hq) hq ((h2 _ _).1 he)
  · rcases hg nm t ht with ⟨rfl, rfl⟩ | ht
    · exact absurd ⟨j, hj, hb _ j hbj hq, hq, rfl⟩ (hno (ν j))
    · exact K.amt1 nm t ht j hj (hb nm j hbj hq) hq fun h => he ((h2 _ _).2 h)
/-- A hold. -/
theorem KS.hold {L : List Pa} {ν : Nat → Int} {st i : Nat} {A : All} (K : KS L ν st A) (hi : i < L.length) {s s' : Ctr} (hs : mget A (pAt L i).nm = some s) (k4 : (pAt L i).k = 4) (ho : okS (pAt L i)) (hu : ¬ (mget s.holds (ν i)).isSome = true) (hh : s'.holds = mput s.holds (ν i) (pAt L i).a) :
    KS L ν (st ||| 2 ^ i) (mput A (pAt L i).nm s') := by
  have hq : hqP L (pAt L i).nm i := ⟨k4, rfl, ho⟩
  have h1 : ∀ nm n, usedP L ν (st ||| 2 ^ i) nm n ↔ usedP L ν st nm n ∨ ((pAt L i).nm = nm ∧ ν i = n) := fun nm n => by
    unfold usedP; rw [ex_add hi]
    exact ⟨fun h => h.imp id fun h => ⟨h.1.2.1, h.2⟩, fun h => h.imp id fun h => ⟨⟨k4, h.1, ho⟩, h.2⟩⟩
  have h2 : ∀ nm n, endP L (st ||| 2 ^ i) nm n ↔ endP L st nm n := fun nm n => by
    unfold endP; rw [ex_add hi]
    exact ⟨fun h => h.resolve_right fun h => by have := h.1.1; omega, .inl⟩
  have h3 : ∀ nm, madeP L (st ||| 2 ^ i) nm ↔ madeP L st nm := fun nm => by
    unfold madeP; rw [ex_add hi]
    exact ⟨fun h => h.resolve_right fun h => by have := h.1; omega, .inl⟩
  have hno : ¬ usedP L ν st (pAt L i).nm (ν i) := fun h => hu ((K.used _ s hs _).2 h)
  have hne : ¬ endP L st (pAt L i).nm (ν i) := fun h => hno (K.en _ _ h)
  have hg : ∀ nm t, mget (mput A (pAt L i).nm s') nm = some t → nm = (pAt L i).nm ∧ t = s' ∨ ((pAt L i).nm ≠ nm ∧ mget A nm = some t) := fun nm t ht => by
    rw [mget_put] at ht
    split at ht
    · rename_i e; simp at ht; exact .inl ⟨e.symm, ht.symm⟩
    · rename_i e; exact .inr ⟨e, ht⟩
  have hold_ : ∀ j, j < L.length → (st ||| 2 ^ i).testBit j = true → hqP L (pAt L i).nm j → j ≠ i → st.testBit j = true ∧ ν j ≠ ν i := fun j hj hbj hqj hne => by
    rcases (bit_add st i j).1 hbj with h | rfl
    · exact ⟨h, fun e => hno ⟨j, hj, h, hqj, e⟩⟩
    · exact absurd rfl hne
  refine ⟨fun nm => ?_, fun nm t ht n => ?_, fun nm t ht j hj hbj hqj he => ?_, fun nm t ht j hj hbj hqj he => ?_, fun nm n h => (h3 nm).2 ?_, fun nm n h => (h1 nm n).2 (.inl (K.en nm n ((h2 nm n).1 h)))⟩
  · rw [h3, ← K.pres nm, mget_put]
    by_cases e : (pAt L i).nm = nm
    · rw [if_pos e, ← e, hs]; simp
    · rw [if_neg e]
  · rw [h1]
    rcases hg nm t ht with ⟨rfl, rfl⟩ | ⟨e, ht⟩
    · rw [hh, mget_put]
      by_cases e : ν i = n
      · simp [e]
      · rw [if_neg e]; simp [e]; exact K.used _ s hs n
    · rw [← K.used nm t ht n]
      exact ⟨.inl, fun h => h.resolve_right fun h => e h.1⟩
  · rcases hg nm t ht with ⟨rfl, rfl⟩ | ⟨e, ht⟩
    · by_cases hji : j = i
      · subst hji; exact absurd ((h2 _ _).1 he) hne
      · obtain ⟨hb, hn⟩ := hold_ j hj hbj hqj hji
        have := K.amt0 _ s hs j hj hb hqj ((h2 _ _).1 he)
        unfold Ctr.had at this ⊢; rw [hh, mget_put, if_neg fun e => hn e.symm]; exact this
    · have hb : st.testBit j = true := ((bit_add st i j).1 hbj).resolve_right fun h => by subst h; exact e hqj.2.1
      exact K.amt0 nm t ht j hj hb hqj ((h2 _ _).1 he)
  · rcases hg nm t ht with ⟨rfl, rfl⟩ | ⟨e, ht⟩
    · by_cases hji : j = i
      · subst hji
        unfold Ctr.had; rw [hh, mget_put, if_pos rfl]; rfl
      · obtain ⟨hb, hn⟩ := hold_ j hj hbj hqj hji
        have := K.amt1 _ s hs j hj hb hqj fun h => he ((h2 _ _).2 h)
        unfold Ctr.had at this ⊢; rw [hh, mget_put, if_neg fun e => hn e.symm]; exact this
    · have hb : st.testBit j = true := ((bit_add st i j).1 hbj).resolve_right fun h => by subst h; exact e hqj.2.1
      exact K.amt1 nm t ht j hj hb hqj fun h => he ((h2 _ _).2 h)
  · rcases (h1 nm n).1 h with h | ⟨rfl, _⟩
    · exact K.un nm n h
    · exact (K.pres _).1 (by rw [hs]; rfl)
/-- A hold ends. -/
theorem KS.end_ {L : List Pa} {ν : Nat → Int} {st i : Nat} {A : All} (K : KS L ν st A) (hi : i < L.length) {s s' : Ctr} (hs : mget A (pAt L i).nm = some s) (k56 : (pAt L i).k = 5 ∨ (pAt L i).k = 6) (ho : okS (pAt L i)) (hu : s.had (pAt L i).a ≠ 0) (hh : s'.holds = mput s.holds (pAt L i).a 0) :
    KS L ν (st ||| 2 ^ i) (mput A (pAt L i).nm s') := by
  have h1 : ∀ nm n, usedP L ν (st ||| 2 ^ i) nm n ↔ usedP L ν st nm n := fun nm n => by
    unfold usedP; rw [ex_add hi]
    exact ⟨fun h => h.resolve_right fun h => by have := h.1.1; omega, .inl⟩
  have h2 : ∀ nm n, endP L (st ||| 2 ^ i) nm n ↔ endP L st nm n ∨ ((pAt L i).nm = nm ∧ (pAt L i).a = n) := fun nm n => by
    unfold endP; rw [ex_add hi]
    exact ⟨fun h => h.imp id fun h => ⟨h.1.2.1, h.2⟩, fun h => h.imp id fun h => ⟨⟨k56, h.1, ho⟩, h.2⟩⟩
  have h3 : ∀ nm, madeP L (st ||| 2 ^ i) nm ↔ madeP L st nm := fun nm => by
    unfold madeP; rw [ex_add hi]
    exact ⟨fun h => h.resolve_right fun h => by have := h.1; omega, .inl⟩
  have hsome : (mget s.holds (pAt L i).a).isSome = true := by
    unfold Ctr.had at hu
    cases hm : mget s.holds (pAt L i).a with
    | none => rw [hm] at hu; exact absurd rfl hu
    | some _ => rfl
  have hb : ∀ nm j, (st ||| 2 ^ i).testBit j = true → hqP L nm j → st.testBit j = true := fun nm j hj hq => by
    rcases (bit_add st i j).1 hj with h | rfl
    · exact h
    · exact absurd hq.1 (by omega)
  have hg : ∀ nm t, mget (mput A (pAt L i).nm s') nm = some t → nm = (pAt L i).nm ∧ t = s' ∨ ((pAt L i).nm ≠ nm ∧ mget A nm = some t) := fun nm t ht => by
    rw [mget_put] at ht
    split at ht
    · rename_i e; simp at ht; exact .inl ⟨e.symm, ht.symm⟩
    · rename_i e; exact .inr ⟨e, ht⟩
  refine ⟨fun nm => ?_, fun nm t ht n => ?_, fun nm t ht j hj hbj hqj he => ?_, fun nm t ht j hj hbj hqj he => ?_, fun nm n h => (h3 nm).2 (K.un nm n ((h1 nm n).1 h)), fun nm n h => (h1 nm n).2 ?_⟩
  · rw [h3, ← K.pres nm, mget_put]
    by_cases e : (pAt L i).nm = nm
    · rw [if_pos e, ← e, hs]; simp
    · rw [if_neg e]
  · rw [h1]
    rcases hg nm t ht with ⟨rfl, rfl⟩ | ⟨e, ht⟩
    · rw [hh, mget_put, ← K.used _ s hs n]
      by_cases e : (pAt L i).a = n
      · rw [if_pos e, ← e, hsome]; simp
      · rw [if_neg e]
    · exact K.used nm t ht n
  · have hbj := hb nm j hbj hqj
    rcases hg nm t ht with ⟨rfl, rfl⟩ | ⟨e, ht⟩
    · unfold Ctr.had; rw [hh, mget_put]
      by_cases e : (pAt L i).a = ν j
      · rw [if_pos e]; rfl
      · rw [if_neg e]; exact K.amt0 _ s hs j hj hbj hqj (((h2 _ _).1 he).resolve_right fun h => e h.2)
    · exact K.amt0 nm t ht j hj hbj hqj (((h2 _ _).1 he).resolve_right fun h => e h.1)
  · have hbj := hb nm j hbj hqj
    rcases hg nm t ht with ⟨rfl, rfl⟩ | ⟨e, ht⟩
    · have e : ¬ (pAt L i).a = ν j := fun e => he ((h2 _ _).2 (.inr ⟨rfl, e⟩))
      unfold Ctr.had; rw [hh, mget_put, if_neg e]
      exact K.amt1 _ s hs j hj hbj hqj fun h => he ((h2 _ _).2 (.inl h))
    · exact K.amt1 nm t ht j hj hbj hqj fun h => he ((h2 _ _).2 (.inl h))
  · rcases (h2 nm n).1 h with h | ⟨rfl, rfl⟩
    · exact K.en nm n h
    · exact (K.used _ s hs _).1 hsome
end
section
set_option linter.unusedSimpArgs false
set_option linter.unusedVariables false
open Go.RowKit

abbrev Ctr.three (s : Ctr) : Int × Int × Int := (s.limit, s.value, s.held)
def Ag (A A' : All) : Prop := ∀ nm, (mget A nm).map Ctr.three = (mget A' nm).map Ctr.three
theorem Ag.symm {A A' : All} (h : Ag A A') : Ag A' A := fun nm => (h nm).symm
theorem Ag.put {A A' : All} (h : Ag A A') (nm : ByteArray) {s s' : Ctr} (e : s.three = s'.three) : Ag (mput A nm s) (mput A' nm s') := fun nm' => by
  rw [mget_put, mget_put]
  split
  · simp [e]
  · exact h nm'
def namedP (L : List Pa) (n : Int) : Prop := ∃ j, j < L.length ∧ (((pAt L j).k = 5 ∨ (pAt L j).k = 6) ∧ (pAt L j).a = n ∨ (pAt L j).k = 4 ∧ (pAt L j).va = n)
/-- Numbers for the calls' holds: their own, or such as nobody names. -/
structure Vn (L : List Pa) (ν : Nat → Int) : Prop where
  must : ∀ j, j < L.length → sortF (pAt L j) = 2 → ν j = (pAt L j).va
  pos : ∀ j, j < L.length → sortF (pAt L j) ≠ 2 → 1 ≤ ν j
  free : ∀ j, j < L.length → sortF (pAt L j) ≠ 2 → ¬ namedP L (ν j)
  apart : ∀ j, j < L.length → sortF (pAt L j) ≠ 2 → ∀ i, i < L.length → sortF (pAt L i) ≠ 2 → i ≠ j → ν i ≠ ν j
theorem okS_sort {p : Pa} (h : okS p) : sortF p = 2 ∨ sortF p = 1 := h.imp (·.1) id

section
variable {L : List Pa} {ν ν' : Nat → Int}
/-- A number that is named is used by a call that must stand. -/
theorem Vn.named (V : Vn L ν) {nm : ByteArray} {n : Int} (hn : namedP L n) {j : Nat} (hj : j < L.length) (hq : hqP L nm j) (e : ν j = n) : sortF (pAt L j) = 2 := by
  by_cases h2 : sortF (pAt L j) = 2
  · exact h2
  · exact absurd (e ▸ hn) (V.free j hj h2)
theorem Vn.used (V : Vn L ν) (V' : Vn L ν') {st : Nat} {nm : ByteArray} {n : Int} (hn : namedP L n) (h : usedP L ν st nm n) : ∃ j, j < L.length ∧ st.testBit j = true ∧ hqP L nm j ∧ ν j = n ∧ ν' j = n := by
  obtain ⟨j, hj, hb, hq, e⟩ := h
  have h2 := V.named hn hj hq e
  exact ⟨j, hj, hb, hq, e, by rw [V'.must j hj h2, ← V.must j hj h2, e]⟩
theorem Vn.used_iff (V : Vn L ν) (V' : Vn L ν') {st : Nat} {nm : ByteArray} {n : Int} (hn : namedP L n) : usedP L ν st nm n ↔ usedP L ν' st nm n := by
  constructor
  · intro h
    obtain ⟨j, hj, hb, hq, _, e⟩ := V.used V' hn h
    exact ⟨j, hj, hb, hq, e⟩
  · intro h
    obtain ⟨j, hj, hb, hq, _, e⟩ := V'.used V hn h
    exact ⟨j, hj, hb, hq, e⟩
theorem had_eq {st : Nat} {A A' : All} (V : Vn L ν) (V' : Vn L ν') (K : KS L ν st A) (K' : KS L ν' st A') {nm : ByteArray} {s s' : Ctr} (hs : mget A nm = some s) (hs' : mget A' nm = some s') {n : Int} (hn : namedP L n) : s.had n = s'.had n := by
  have h1 := K.used nm s hs n
  have h2 := K'.used nm s' hs' n
  by_cases hu : usedP L ν st nm n
  · obtain ⟨j, hj, hb, hq, e, e'⟩ := V.used V' hn hu
    by_cases he : endP L st nm n
    · have a := K.amt0 nm s hs j hj hb hq (by rw [e]; exact he)
      have b := K'.amt0 nm s' hs' j hj hb hq (by rw [e']; exact he)
      rw [e] at a; rw [e'] at b; rw [a, b]
    · have a := K.amt1 nm s hs j hj hb hq (by rw [e]; exact he)
      have b := K'.amt1 nm s' hs' j hj hb hq (by rw [e']; exact he)
      rw [e] at a; rw [e'] at b; rw [a, b]
  · have hu' : ¬ usedP L ν' st nm n := fun h => hu ((V.used_iff V' hn).2 h)
    unfold Ctr.had
    cases h3 : mget s.holds n with
    | some x => exact absurd (h1.1 (by rw [h3]; rfl)) hu
    | none =>
      cases h4 : mget s'.holds n with
      | some x => exact absurd (h2.1 (by rw [h4]; rfl)) hu'
      | none => rfl
/-- A call that may stand has a number of its own. -/
theorem fresh {st i : Nat} {A : All} (V : Vn L ν) (K : KS L ν st A) (hi : i < L.length) (hb : st.testBit i = false) (h2 : sortF (pAt L i) ≠ 2) {nm : ByteArray} {s : Ctr} (hs : mget A nm = some s) : ¬ (mget s.holds (ν i)).isSome = true := fun h => by
  obtain ⟨j, hj, hbj, hq, e⟩ := (K.used nm s hs _).1 h
  by_cases hj2 : sortF (pAt L j) = 2
  · refine V.free i hi h2 ⟨j, hj, .inr ⟨hq.1, ?_⟩⟩
    rw [← V.must j hj hj2, e]
  · refine V.apart i hi h2 j hj hj2 (fun e => ?_) e
    subst e; rw [hb] at hbj; cases hbj
theorem act4 {s : Ctr} {k a b h : Int} (e : k = 4) : actF s k a b h = s.hold a h := by subst e; simp [actF]
theorem act5 {s : Ctr} {k a b h : Int} (e : k = 5) : actF s k a b h = s.end_ 5 a := by subst e; simp [actF]
theorem act6 {s : Ctr} {k a b h : Int} (e : k = 6) : actF s k a b h = s.end_ 6 a := by subst e; simp [actF]
theorem act_three {s s' : Ctr} (e : s.three = s'.three) {k a b h h' : Int} (k4 : k ≠ 4) (k5 : k ≠ 5) (k6 : k ≠ 6) (k12 : k ≠ 12) :
    (actF s k a b h).2 = (actF s' k a b h').2 ∧ (actF s k a b h).1.three = (actF s' k a b h').1.three ∧ (actF s k a b h).1.holds = s.holds := by
  obtain ⟨l, v, hh, b1, m⟩ := s
  obtain ⟨l', v', hh', b1', m'⟩ := s'
  simp only [Ctr.three, Prod.mk.injEq] at e
  obtain ⟨rfl, rfl, rfl⟩ := e
  unfold actF
  rw [if_neg k4, if_neg k5, if_neg k6, if_neg k12]
  rw [if_neg k4, if_neg k5, if_neg k6, if_neg k12]
  unfold Ctr.inc Ctr.take Ctr.reset Ctr.recap
  repeat' split
  all_goals first | exact ⟨rfl, rfl, rfl⟩ | simp_all
theorem step_res {st i : Nat} {A A' : All} (V : Vn L ν) (V' : Vn L ν') (K : KS L ν st A) (K' : KS L ν' st A') (hA : Ag A A') (hi : i < L.length) (hb : st.testBit i = false) (k12 : (pAt L i).k ≠ 12) (hs3 : sortF (pAt L i) = 2 ∨ sortF (pAt L i) = 1) :
    (doN L ν A i).2.2 = (doN L ν' A' i).2.2 ∧ (sortF (pAt L i) = 2 → (doN L ν A i).2.1 = (doN L ν' A' i).2.1) ∧ Ag (doN L ν A i).1 (doN L ν' A' i).1 := by
  unfold doN doF
  by_cases hr : rightB (pAt L i).k (pAt L i).nm (pAt L i).a (pAt L i).b = false
  · rw [if_pos hr, if_pos hr]; exact ⟨rfl, fun _ => rfl, hA⟩
  rw [if_neg hr, if_neg hr]
  have hn := hA (pAt L i).nm
  cases hm : mget A (pAt L i).nm with
  | none =>
    cases hm' : mget A' (pAt L i).nm with
    | some s' => rw [hm, hm'] at hn; cases hn
    | none =>
      dsimp only
      by_cases k1 : (pAt L i).k = 1
      · rw [if_pos k1, if_pos k1]
        split
        · exact ⟨rfl, fun _ => rfl, hA⟩
        · exact ⟨rfl, fun _ => rfl, hA.put _ rfl⟩
      · rw [if_neg k1, if_neg k1]
        exact ⟨rfl, fun _ => rfl, hA⟩
  | some s =>
    cases hm' : mget A' (pAt L i).nm with
    | none => rw [hm, hm'] at hn; cases hn
    | some s' =>
      rw [hm, hm'] at hn
      have e3 : s.three = s'.three := by simpa using hn
      dsimp only
      by_cases k1 : (pAt L i).k = 1
      · rw [if_pos k1, if_pos k1]
        exact ⟨rfl, fun _ => rfl, hA⟩
      rw [if_neg k1, if_neg k1]
      dsimp only
      have e3' := e3
      simp only [Ctr.three, Prod.mk.injEq] at e3'
      obtain ⟨el, ev, eh⟩ := e3'
      by_cases k4 : (pAt L i).k = 4
      · have ea : ∀ (s : Ctr) (h : Int), actF s (pAt L i).k (pAt L i).a (pAt L i).b h = s.hold (pAt L i).a h := fun s h => act4 k4
        rw [ea, ea]
        unfold Ctr.hold
        rw [ev]
        by_cases hv : s'.value < (pAt L i).a
        · rw [if_pos hv, if_pos hv]; exact ⟨rfl, fun _ => rfl, hA.put _ e3⟩
        rw [if_neg hv, if_neg hv]
        have hnx : ((mget s.holds (ν i)).isSome = true ↔ (mget s'.holds (ν' i)).isSome = true) ∧ (ν i < 1 ↔ ν' i < 1) ∧ (sortF (pAt L i) = 2 → ν i = ν' i) := by
          by_cases h2 : sortF (pAt L i) = 2
          · have e1 := V.must i hi h2
            have e2 := V'.must i hi h2
            have hn' : namedP L (pAt L i).va := ⟨i, hi, .inr ⟨k4, rfl⟩⟩
            rw [e1, e2, K.used _ s hm, K'.used _ s' hm', V.used_iff V' hn']
            exact ⟨Iff.rfl, Iff.rfl, fun _ => rfl⟩
          · have f1 := fresh V K hi hb h2 hm
            have f2 := fresh V' K' hi hb h2 hm'
            have p1 := V.pos i hi h2
            have p2 := V'.pos i hi h2
            exact ⟨⟨fun h => absurd h f1, fun h => absurd h f2⟩, ⟨fun h => by omega, fun h => by omega⟩, fun h => absurd h h2⟩
        obtain ⟨n1, n2, n3⟩ := hnx
        by_cases hu : (mget s.holds (ν i)).isSome = true
        · rw [if_pos hu, if_pos (n1.1 hu)]; exact ⟨rfl, fun _ => rfl, hA.put _ e3⟩
        rw [if_neg hu, if_neg fun h => hu (n1.2 h)]
        by_cases hl : ν i < 1
        · rw [if_pos hl, if_pos (n2.1 hl)]; exact ⟨rfl, fun _ => rfl, hA.put _ e3⟩
        rw [if_neg hl, if_neg fun h => hl (n2.2 h)]
        exact ⟨rfl, n3, hA.put _ (by simp [Ctr.three, el, ev, eh])⟩
      by_cases k56 : (pAt L i).k = 5 ∨ (pAt L i).k = 6
      · have hn' : namedP L (pAt L i).a := ⟨i, hi, .inl ⟨k56, rfl⟩⟩
        have eh2 := had_eq V V' K K' hm hm' hn'
        have key : ∀ k, (k = 5 ∨ k = 6) → (s.end_ k (pAt L i).a).2 = (s'.end_ k (pAt L i).a).2 ∧ (s.end_ k (pAt L i).a).1.three = (s'.end_ k (pAt L i).a).1.three := fun k hk => by
          unfold Ctr.end_
          rw [eh2]
          split
          · exact ⟨rfl, e3⟩
          · rcases hk with rfl | rfl <;> exact ⟨rfl, by simp [Ctr.three, el, ev, eh]⟩
        rcases k56 with k | k
        · have ea : ∀ (s : Ctr) (h : Int), actF s (pAt L i).k (pAt L i).a (pAt L i).b h = s.end_ 5 (pAt L i).a := fun s h => act5 k
          rw [ea, ea]
          obtain ⟨h1, h2⟩ := key 5 (.inl rfl)
          exact ⟨congrArg Prod.snd h1, fun _ => congrArg Prod.fst h1, hA.put _ h2⟩
        · have ea : ∀ (s : Ctr) (h : Int), actF s (pAt L i).k (pAt L i).a (pAt L i).b h = s.end_ 6 (pAt L i).a := fun s h => act6 k
          rw [ea, ea]
          obtain ⟨h1, h2⟩ := key 6 (.inr rfl)
          exact ⟨congrArg Prod.snd h1, fun _ => congrArg Prod.fst h1, hA.put _ h2⟩
      have k5 : (pAt L i).k ≠ 5 := fun h => k56 (.inl h)
      have k6 : (pAt L i).k ≠ 6 := fun h => k56 (.inr h)
      obtain ⟨h1, h2, _⟩ := act_three e3 (a := (pAt L i).a) (b := (pAt L i).b) (h := ν i) (h' := ν' i) k4 k5 k6 k12
      exact ⟨congrArg Prod.snd h1, fun _ => congrArg Prod.fst h1, hA.put _ h2⟩
theorem doF_err {A : All} {hn : Nat} {k : Int} {nm : ByteArray} {a b h : Int} (he : (doF A hn k nm a b h).2.2 ≠ 0) : ∀ nm', mget (doF A hn k nm a b h).1 nm' = mget A nm' := by
  unfold doF at he ⊢
  intro nm'
  split
  · rfl
  · rename_i hr
    rw [if_neg hr] at he
    cases hm : mget A nm with
    | none =>
      rw [hm] at he
      dsimp only at he ⊢
      split
      · rename_i k1
        rw [if_pos k1] at he
        split
        · rfl
        · rename_i hab; rw [if_neg hab] at he; exact absurd rfl he
      · rfl
    | some s =>
      rw [hm] at he
      dsimp only at he ⊢
      split
      · rfl
      · rename_i k1
        rw [if_neg k1] at he
        dsimp only at he ⊢
        rw [(actF_err he).1, mget_put]
        split
        · rename_i e; subst e; exact hm.symm
        · rfl
theorem KS.next {st i : Nat} {A : All} (K : KS L ν st A) (hi : i < L.length) (k12 : (pAt L i).k ≠ 12) (hs3 : sortF (pAt L i) = 2 ∨ sortF (pAt L i) = 1) (g2 : sortF (pAt L i) = 2 → (doN L ν A i).2.2 = (pAt L i).er) (g1 : sortF (pAt L i) = 1 → (doN L ν A i).2.2 = 0) :
    KS L ν (st ||| 2 ^ i) (doN L ν A i).1 := by
  by_cases he : (doN L ν A i).2.2 = 0
  · have ho : okS (pAt L i) := by
      rcases hs3 with h | h
      · exact .inl ⟨h, by rw [← g2 h, he]⟩
      · exact .inr h
    clear g1 g2
    unfold doN doF at he ⊢
    by_cases hr : rightB (pAt L i).k (pAt L i).nm (pAt L i).a (pAt L i).b = false
    · rw [if_pos hr] at he; cases he
    rw [if_neg hr] at he ⊢
    cases hm : mget A (pAt L i).nm with
    | none =>
      rw [hm] at he
      dsimp only at he ⊢
      by_cases k1 : (pAt L i).k = 1
      · rw [if_pos k1] at he ⊢
        split at he
        · cases he
        · rename_i hab
          rw [if_neg hab]
          exact K.make hi hm rfl k1 ho
      · rw [if_neg k1] at he; cases he
    | some s =>
      rw [hm] at he
      dsimp only at he ⊢
      by_cases k1 : (pAt L i).k = 1
      · rw [if_pos k1] at he; cases he
      rw [if_neg k1] at he ⊢
      dsimp only at he ⊢
      by_cases k4 : (pAt L i).k = 4
      · have ea : actF s (pAt L i).k (pAt L i).a (pAt L i).b (ν i) = s.hold (pAt L i).a (ν i) := act4 k4
        rw [ea] at he ⊢
        unfold Ctr.hold at he ⊢
        split at he
        · cases he
        · rename_i hv
          split at he
          · cases he
          · rename_i hu
            split at he
            · cases he
            · rename_i hl
              rw [if_neg hv, if_neg hu, if_neg hl]
              exact K.hold hi hm k4 ho hu rfl
      by_cases k56 : (pAt L i).k = 5 ∨ (pAt L i).k = 6
      · have key : ∀ k, (s.end_ k (pAt L i).a).2.2 = 0 → s.had (pAt L i).a ≠ 0 ∧ (s.end_ k (pAt L i).a).1.holds = mput s.holds (pAt L i).a 0 := fun k h => by
          unfold Ctr.end_ at h ⊢
          split at h
          · cases h
          · rename_i h0; rw [if_neg h0]; exact ⟨h0, rfl⟩
        rcases id k56 with k | k
        · have ea : actF s (pAt L i).k (pAt L i).a (pAt L i).b (ν i) = s.end_ 5 (pAt L i).a := act5 k
          rw [ea] at he ⊢
          exact K.end_ hi hm k56 ho (key 5 he).1 (key 5 he).2
        · have ea : actF s (pAt L i).k (pAt L i).a (pAt L i).b (ν i) = s.end_ 6 (pAt L i).a := act6 k
          rw [ea] at he ⊢
          exact K.end_ hi hm k56 ho (key 6 he).1 (key 6 he).2
      have k5 : (pAt L i).k ≠ 5 := fun h => k56 (.inl h)
      have k6 : (pAt L i).k ≠ 6 := fun h => k56 (.inr h)
      exact K.plain hi hm (act_three (s' := s) rfl (h' := 0) k4 k5 k6 k12).2.2 k4 k5 k6
  · have hno : ¬ okS (pAt L i) := fun h => by
      rcases h with ⟨h2, h0⟩ | h1
      · exact he (by rw [g2 h2, h0])
      · exact he (g1 h1)
    exact (K.idle hi hno).like (doF_err he)
end
end
end Go.Proofs.Ytfcbcgjgkleonaa
