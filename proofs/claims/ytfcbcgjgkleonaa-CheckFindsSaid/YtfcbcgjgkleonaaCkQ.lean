/- The plain law: the document's map and package atom's answer the same. -/
import Derived.Test.YtfcbcgjgkleonaaCkP
set_option maxRecDepth 100000
set_option linter.unusedSimpArgs false
set_option linter.unusedVariables false
set_option maxHeartbeats 4000000
namespace Go.Proofs.Ytfcbcgjgkleonaa
open Go.RowKit

structure RelC (s : Ctr) (c : Rk) : Prop where
  limit : s.limit = c.cap
  value : s.value = c.v
  held : s.held = hsum c.holds
  used : ∀ n, (mget s.holds n).isSome = usedR c.used n
  amt : ∀ n, (mget s.holds n).getD 0 = amountR c.holds n
theorem actF_rel {s : Ctr} {c : Rk} (ok : c.ok) (R : RelC s c) {k a b h : Int} {nm : ByteArray} (hr : rightB k nm a b = true) (k1 : k ≠ 1) : (actF s k a b h).2 = (doneF c k a b h).2 ∧ RelC (actF s k a b h).1 (doneF c k a b h).1 := by
  obtain ⟨r1, r2, r8, r9, r7, rk⟩ := right_nums hr
  have hh := ok.held
  have hn := hsum_nonneg ok.pos
  have hwn : ∀ n, 0 ≤ hsum (withoutR c.holds n) := fun n => hsum_nonneg (without_nonneg ok.pos n)
  have R' := R
  obtain ⟨v0, pos, sum, cap, nd, sub⟩ := ok
  obtain ⟨q1, q2, q3, q4, q5⟩ := R
  have hC : ∀ (s' : Ctr) (c' : Rk), s'.limit = c'.cap → s'.value = c'.v → s'.held = s.held → s'.holds = s.holds → c'.holds = c.holds → c'.used = c.used → RelC s' c' := fun s' c' e1 e2 e3 e4 e5 e6 => ⟨e1, e2, by rw [e3, e5]; exact q3, fun n => by rw [e4, e6]; exact q4 n, fun n => by rw [e4, e5]; exact q5 n⟩
  rcases rk with rfl | rfl | rfl | rfl | rfl | rfl | rfl | rfl | rfl | rfl | rfl
  · exact absurd rfl k1
  · have := r2 (by omega)
    have eA : actF s 2 a b h = s.inc a := by simp [actF]
    have eD : doneF c 2 a b h = if c.cap < c.v + heldW c.holds + a then (c, 0, 60) else ({ c with v := c.v + a }, 0, 0) := by simp [doneF]
    rw [eA, eD]
    rw [hh]
    by_cases h1 : c.cap < c.v + hsum c.holds + a
    · have e1 : s.inc a = (s, 0, 60) := by unfold Ctr.inc; rw [if_neg (by omega), if_pos (by omega)]
      rw [e1, if_pos h1]; exact ⟨rfl, R'⟩
    · have e1 : s.inc a = ({ s with value := s.value + a }, 0, 0) := by unfold Ctr.inc; rw [if_neg (by omega), if_neg (by omega)]
      rw [e1, if_neg h1]; exact ⟨rfl, hC _ _ q1 (by dsimp only; omega) rfl rfl rfl rfl⟩
  · have := r2 (by omega)
    have eA : actF s 3 a b h = s.inc (-a) := by simp [actF]
    have eD : doneF c 3 a b h = if c.v < a then (c, 0, 60) else ({ c with v := c.v - a }, 0, 0) := by simp [doneF]
    rw [eA, eD]
    by_cases h1 : c.v < a
    · have e1 : s.inc (-a) = (s, 0, 60) := by unfold Ctr.inc; rw [if_pos (by omega)]
      rw [e1, if_pos h1]; exact ⟨rfl, R'⟩
    · have e1 : s.inc (-a) = ({ s with value := s.value + -a }, 0, 0) := by unfold Ctr.inc; rw [if_neg (by omega), if_neg (by omega)]
      rw [e1, if_neg h1]; exact ⟨rfl, hC _ _ q1 (by dsimp only; omega) rfl rfl rfl rfl⟩
  · have := r2 (by omega)
    have eA : actF s 4 a b h = s.hold a h := by simp [actF]
    have eD : doneF c 4 a b h = if c.v < a then (c, 0, 60) else if h < 1 then (c, 0, 1) else if usedR c.used h = true then (c, 0, 1) else ({ c with v := c.v - a, holds := withR c.holds (h, a), used := c.used ++ [h] }, h, 0) := by simp [doneF]
    rw [eA, eD]
    by_cases h1 : c.v < a
    · have e1 : s.hold a h = (s, 0, 60) := by unfold Ctr.hold; rw [if_pos (by omega)]
      rw [e1, if_pos h1]; exact ⟨rfl, R'⟩
    rw [if_neg h1]
    by_cases h2 : h < 1
    · have e1 : s.hold a h = (s, 0, 1) := by
        unfold Ctr.hold; rw [if_neg (by omega)]
        split
        · rfl
        · rfl
      rw [e1, if_pos h2]; exact ⟨rfl, R'⟩
    rw [if_neg h2]
    by_cases h3 : usedR c.used h = true
    · have e1 : s.hold a h = (s, 0, 1) := by unfold Ctr.hold; rw [if_neg (by omega), if_pos ((q4 h).trans h3)]
      rw [e1, if_pos h3]; exact ⟨rfl, R'⟩
    have e1 : s.hold a h = ({ s with value := s.value - a, held := s.held + a, holds := mput s.holds h a }, h, 0) := by unfold Ctr.hold; rw [if_neg (by omega), if_neg (by rw [q4 h]; exact h3), if_neg h2]
    rw [e1, if_neg h3]
    have hni : h ∉ c.holds.map (·.1) := fun hin => by
      obtain ⟨x, hx, rfl⟩ := List.mem_map.1 hin
      exact h3 (by simpa [usedR] using sub x hx)
    have hw : withR c.holds (h, a) = c.holds ++ [(h, a)] := by unfold withR; rw [without_none hni]
    refine ⟨rfl, q1, by dsimp only; omega, ?_, fun n => ?_, fun n => ?_⟩
    · dsimp only; rw [hw, hsum_append]
      have : hsum [(h, a)] = a := by simp [hsum]
      omega
    · dsimp only; rw [mget_put]
      by_cases e : h = n
      · subst e; simp [usedR]
      · rw [if_neg e, q4 n]
        have e' : ¬ n = h := fun e' => e e'.symm
        simp [usedR, e']
    · dsimp only; rw [mget_put, hw, amount_append _ _ hni]
      by_cases e : h = n
      · subst e; simp
      · rw [if_neg e, if_neg fun e' => e e'.symm, q5 n]
  · have eA : actF s 5 a b h = s.end_ 5 a := by simp [actF]
    have eD : doneF c 5 a b h = if amountR c.holds a = 0 then (c, 0, 70) else ({ c with holds := withoutR c.holds a, v := c.v }, amountR c.holds a, 0) := by simp [doneF]
    rw [eA, eD]
    have hd : s.had a = amountR c.holds a := q5 a
    by_cases h0 : amountR c.holds a = 0
    · have e1 : s.end_ 5 a = (s, 0, 70) := by unfold Ctr.end_; rw [if_pos (by omega)]
      rw [e1, if_pos h0]; exact ⟨rfl, R'⟩
    have e1 : s.end_ 5 a = ({ s with holds := mput s.holds a 0, held := s.held - s.had a, value := if (5 : Int) = 5 then s.value else s.value + s.had a }, if (5 : Int) = 12 then 0 else s.had a, 0) := by unfold Ctr.end_; rw [if_neg (by omega)]
    rw [e1, if_neg h0, hd]
    have hex : (mget s.holds a).isSome = true := by
      have := q5 a
      cases hm : mget s.holds a with
      | none => rw [hm] at this; exact absurd this.symm h0
      | some _ => rfl
    refine ⟨by simp, q1, by simp [q2], ?_, fun n => ?_, fun n => ?_⟩
    · dsimp only; rw [without_sum nd, q3]
    · dsimp only; rw [mget_put]
      by_cases e : a = n
      · subst e; rw [if_pos rfl, ← q4 a, hex]; rfl
      · rw [if_neg e]; exact q4 n
    · dsimp only; rw [mget_put, amount_without]
      by_cases e : a = n
      · subst e; simp
      · rw [if_neg e, if_neg fun e' => e e'.symm]; exact q5 n
  · have eA : actF s 6 a b h = s.end_ 6 a := by simp [actF]
    have eD : doneF c 6 a b h = if amountR c.holds a = 0 then (c, 0, 70) else ({ c with holds := withoutR c.holds a, v := c.v + amountR c.holds a }, amountR c.holds a, 0) := by simp [doneF]
    rw [eA, eD]
    have hd : s.had a = amountR c.holds a := q5 a
    by_cases h0 : amountR c.holds a = 0
    · have e1 : s.end_ 6 a = (s, 0, 70) := by unfold Ctr.end_; rw [if_pos (by omega)]
      rw [e1, if_pos h0]; exact ⟨rfl, R'⟩
    have e1 : s.end_ 6 a = ({ s with holds := mput s.holds a 0, held := s.held - s.had a, value := if (6 : Int) = 5 then s.value else s.value + s.had a }, if (6 : Int) = 12 then 0 else s.had a, 0) := by unfold Ctr.end_; rw [if_neg (by omega)]
    rw [e1, if_neg h0, hd]
    have hex : (mget s.holds a).isSome = true := by
      have := q5 a
      cases hm : mget s.holds a with
      | none => rw [hm] at this; exact absurd this.symm h0
      | some _ => rfl
    refine ⟨by simp, q1, by simp [q2], ?_, fun n => ?_, fun n => ?_⟩
    · dsimp only; rw [without_sum nd, q3]
    · dsimp only; rw [mget_put]
      by_cases e : a = n
      · subst e; rw [if_pos rfl, ← q4 a, hex]; rfl
      · rw [if_neg e]; exact q4 n
    · dsimp only; rw [mget_put, amount_without]
      by_cases e : a = n
      · subst e; simp
      · rw [if_neg e, if_neg fun e' => e e'.symm]; exact q5 n
  · have eA : actF s 7 a b h = (s, s.value, 0) := by simp [actF]
    have eD : doneF c 7 a b h = (c, c.v, 0) := by simp [doneF]
    rw [eA, eD]
    rw [q2]; exact ⟨rfl, R'⟩
  · have := r8 rfl
    have eA : actF s 8 a b h = s.take a b := by simp [actF]
    have eD : doneF c 8 a b h = if c.v ≠ a then (c, 0, 110) else if c.v < b then (c, 0, 60) else ({ c with v := c.v - b }, a, 0) := by simp [doneF]
    rw [eA, eD]
    by_cases h1 : c.v ≠ a
    · have e1 : s.take a b = (s, 0, 110) := by unfold Ctr.take; rw [if_pos (by omega)]
      rw [e1, if_pos h1]; exact ⟨rfl, R'⟩
    rw [if_neg h1]
    by_cases h2 : c.v < b
    · have e1 : s.take a b = (s, 0, 60) := by unfold Ctr.take; rw [if_neg (by omega), if_pos (by omega)]
      rw [e1, if_pos h2]; exact ⟨rfl, R'⟩
    · have e1 : s.take a b = ({ s with value := s.value - b }, a, 0) := by unfold Ctr.take; rw [if_neg (by omega), if_neg (by omega)]
      rw [e1, if_neg h2]; exact ⟨rfl, hC _ _ q1 (by dsimp only; omega) rfl rfl rfl rfl⟩
  · have := r9 rfl
    have eA : actF s 9 a b h = s.reset a := by simp [actF]
    have eD : doneF c 9 a b h = if c.cap < a + heldW c.holds then (c, 0, 61) else ({ c with v := a }, a, 0) := by simp [doneF]
    rw [eA, eD]
    rw [hh]
    by_cases h1 : c.cap < a + hsum c.holds
    · have e1 : s.reset a = (s, 0, 61) := by unfold Ctr.reset; rw [if_pos (by omega)]
      rw [e1, if_pos h1]; exact ⟨rfl, R'⟩
    · have e1 : s.reset a = ({ s with value := a }, a, 0) := by unfold Ctr.reset; rw [if_neg (by omega)]
      rw [e1, if_neg h1]; exact ⟨rfl, hC _ _ q1 rfl rfl rfl rfl rfl⟩
  · have := r2 (by omega)
    have eA : actF s 10 a b h = s.recap a := by simp [actF]
    have eD : doneF c 10 a b h = if a < c.v + heldW c.holds then (c, 0, 61) else ({ c with cap := a }, a, 0) := by simp [doneF]
    rw [eA, eD]
    rw [hh]
    by_cases h1 : a < c.v + hsum c.holds
    · have e1 : s.recap a = (s, 0, 61) := by unfold Ctr.recap; rw [if_pos (by omega)]
      rw [e1, if_pos h1]; exact ⟨rfl, R'⟩
    · have e1 : s.recap a = ({ s with limit := a }, a, 0) := by unfold Ctr.recap; rw [if_neg (by omega)]
      rw [e1, if_neg h1]; exact ⟨rfl, hC _ _ rfl q2 rfl rfl rfl rfl⟩
  · have eA : actF s 12 a b h = s.end_ 12 a := by simp [actF]
    have eD : doneF c 12 a b h = if amountR c.holds a = 0 then (c, 0, 70) else ({ c with holds := withoutR c.holds a, v := c.v + amountR c.holds a }, 0, 0) := by simp [doneF]
    rw [eA, eD]
    have hd : s.had a = amountR c.holds a := q5 a
    by_cases h0 : amountR c.holds a = 0
    · have e1 : s.end_ 12 a = (s, 0, 70) := by unfold Ctr.end_; rw [if_pos (by omega)]
      rw [e1, if_pos h0]; exact ⟨rfl, R'⟩
    have e1 : s.end_ 12 a = ({ s with holds := mput s.holds a 0, held := s.held - s.had a, value := if (12 : Int) = 5 then s.value else s.value + s.had a }, if (12 : Int) = 12 then 0 else s.had a, 0) := by unfold Ctr.end_; rw [if_neg (by omega)]
    rw [e1, if_neg h0, hd]
    have hex : (mget s.holds a).isSome = true := by
      have := q5 a
      cases hm : mget s.holds a with
      | none => rw [hm] at this; exact absurd this.symm h0
      | some _ => rfl
    refine ⟨by simp, q1, by simp [q2], ?_, fun n => ?_, fun n => ?_⟩
    · dsimp only; rw [without_sum nd, q3]
    · dsimp only; rw [mget_put]
      by_cases e : a = n
      · subst e; rw [if_pos rfl, ← q4 a, hex]; rfl
      · rw [if_neg e]; exact q4 n
    · dsimp only; rw [mget_put, amount_without]
      by_cases e : a = n
      · subst e; simp
      · rw [if_neg e, if_neg fun e' => e e'.symm]; exact q5 n

/-! ### Maps -/
def kget (l : List Rk) (nm : ByteArray) : Option Rk := l.find? fun c => decide (c.nm = nm)
theorem kput_split (c : Rk) (l : List Rk) : ∃ l1 l2, l = l1 ++ l2 ∧ kput c l = l1 ++ c :: l2 := by
  have key : ∀ (l : List Rk) (a : List Rk), ∃ l1 l2, l = l1 ++ l2 ∧ ((l.foldl (kputStep c) (a, false)).2 = true ∧ (l.foldl (kputStep c) (a, false)).1 = a ++ l1 ++ c :: l2 ∨ (l.foldl (kputStep c) (a, false)).2 = false ∧ (l.foldl (kputStep c) (a, false)).1 = a ++ l) := by
    intro l
    induction l with
    | nil => intro a; exact ⟨[], [], rfl, .inr ⟨rfl, by simp⟩⟩
    | cons x l ih =>
      intro a
      by_cases h : ltS c.nm x.nm = true
      · have hs : kputStep c (a, false) x = (a ++ [c] ++ [x], true) := by unfold kputStep; rw [if_pos ⟨rfl, h⟩]
        have ht : ∀ (m : List Rk) (b : List Rk), m.foldl (kputStep c) (b, true) = (b ++ m, true) := by
          intro m
          induction m with
          | nil => intro b; simp
          | cons y m ih =>
            intro b
            rw [List.foldl_cons, show kputStep c (b, true) y = (b ++ [y], true) by unfold kputStep; rw [if_neg (by simp)], ih]
            simp
        refine ⟨[], x :: l, rfl, .inl ?_⟩
        rw [List.foldl_cons, hs, ht]
        simp
      · have hs : kputStep c (a, false) x = (a ++ [x], false) := by unfold kputStep; rw [if_neg fun h' => h h'.2]
        obtain ⟨l1, l2, h1, h2⟩ := ih (a ++ [x])
        refine ⟨x :: l1, l2, by rw [h1]; rfl, ?_⟩
        rw [List.foldl_cons, hs]
        rcases h2 with ⟨h2, h3⟩ | ⟨h2, h3⟩
        · exact .inl ⟨h2, by rw [h3]; simp⟩
        · exact .inr ⟨h2, by rw [h3]; simp⟩
  obtain ⟨l1, l2, h1, h2⟩ := key l []
  unfold kput kputT
  rcases h2 with ⟨h2, h3⟩ | ⟨h2, h3⟩
  · exact ⟨l1, l2, h1, by rw [if_pos h2, h3]; simp⟩
  · exact ⟨l, [], by simp, by rw [if_neg (by simp [h2]), h3]; simp⟩
theorem kget_none {l : List Rk} {nm : ByteArray} (h : kget l nm = none) : ∀ c ∈ l, c.nm ≠ nm := fun c hc e => by
  have := List.find?_eq_none.1 h c hc
  simp [e] at this
theorem kget_put {c : Rk} {l : List Rk} (hn : kget l c.nm = none) (nm : ByteArray) : kget (kput c l) nm = if c.nm = nm then some c else kget l nm := by
  obtain ⟨l1, l2, rfl, h2⟩ := kput_split c l
  rw [h2]
  unfold kget
  have hn' := kget_none hn
  rw [List.find?_append, List.find?_append, List.find?_cons]
  by_cases e : c.nm = nm
  · subst e
    rw [if_pos rfl]
    have : l1.find? (fun c' => decide (c'.nm = c.nm)) = none := List.find?_eq_none.2 fun x hx => by simpa using hn' x (by simp [hx])
    rw [this]
    simp
  · rw [if_neg e]
    simp [e]
theorem kfind_iff {l : List Rk} {nm : ByteArray} : (kfind l nm).bind (l[·]?) = kget l nm := by
  unfold kfind kget
  cases h : l.findIdx? (fun c => decide (c.nm = nm)) with
  | none =>
    rw [List.findIdx?_eq_none_iff] at h
    rw [List.find?_eq_none.2 fun x hx => by rw [h x hx]; simp]
    rfl
  | some i =>
    obtain ⟨hi, h1, h2⟩ := List.findIdx?_eq_some_iff_getElem.1 h
    simp only [Option.bind_some]
    rw [List.getElem?_eq_getElem hi]
    symm
    rw [List.find?_eq_some_iff_getElem]
    exact ⟨h1, i, hi, rfl, fun j hj => by simpa using h2 j hj⟩
theorem kget_set {l : List Rk} {nm : ByteArray} {i : Nat} (hk : kfind l nm = some i) {c' : Rk} (hc : c'.nm = nm) (nm' : ByteArray) : kget (l.set i c') nm' = if nm = nm' then some c' else kget l nm' := by
  obtain ⟨hi, h1, h2⟩ := List.findIdx?_eq_some_iff_getElem.1 hk
  have hsplit : l = l.take i ++ l[i] :: l.drop (i + 1) := by rw [List.getElem_cons_drop, List.take_append_drop]
  have hset : l.set i c' = l.take i ++ c' :: l.drop (i + 1) := by rw [List.set_eq_take_append_cons_drop, if_pos hi]
  have h1' : l[i].nm = nm := by simpa using h1
  unfold kget
  rw [hset]
  conv => rhs; rw [hsplit]
  rw [List.find?_append, List.find?_append, List.find?_cons, List.find?_cons, hc, h1']
  by_cases e : nm = nm'
  · subst e
    rw [if_pos rfl]
    have : (l.take i).find? (fun c => decide (c.nm = nm)) = none := by
      rw [List.find?_eq_none]
      intro x hx
      obtain ⟨j, hj, rfl⟩ := List.getElem_of_mem hx
      rw [List.getElem_take]
      rw [List.length_take] at hj
      exact h2 j (by omega)
    rw [this]; simp
  · rw [if_neg e]; simp [e]
def RelM (A : All) (l : List Rk) : Prop := ∀ nm, match mget A nm, kget l nm with
  | none, none => True
  | some s, some c => RelC s c ∧ c.ok
  | _, _ => False
theorem RelM.nil : RelM [] [] := fun nm => trivial
theorem doR_rel {A : All} {l : List Rk} (R : RelM A l) (k : Int) (nm : ByteArray) (a b h : Int) : (doF A 0 k nm a b h).2 = (doR l k nm a b h).2 ∧ RelM (doF A 0 k nm a b h).1 (doR l k nm a b h).1 := by
  unfold doF doR
  by_cases hr : rightB k nm a b = false
  · rw [if_pos hr, if_pos hr]; exact ⟨rfl, R⟩
  rw [if_neg hr, if_neg hr]
  have hr' : rightB k nm a b = true := by simpa using hr
  have Rn := R nm
  have hfs : (kfind l nm).isSome = (kget l nm).isSome := by
    rw [← kfind_iff]
    cases hf : kfind l nm with
    | none => rfl
    | some i =>
      obtain ⟨hi, _⟩ := List.findIdx?_eq_some_iff_getElem.1 hf
      simp [List.getElem?_eq_getElem hi]
  rw [kfind_iff, hfs]
  cases hA : mget A nm with
  | none =>
    cases hl : kget l nm with
    | some c => rw [hA, hl] at Rn; exact Rn.elim
    | none =>
      dsimp only
      by_cases k1 : k = 1
      · rw [if_pos k1, if_pos k1, if_neg (show ¬ ((none : Option Rk).isSome = true) by simp)]
        by_cases hab : a < b
        · rw [if_pos hab, if_pos hab]; exact ⟨rfl, R⟩
        · rw [if_neg hab, if_neg hab]
          refine ⟨rfl, fun nm' => ?_⟩
          dsimp only
          rw [mget_put, kget_put (c := ⟨nm, a, b, [], []⟩) hl]
          by_cases e : nm = nm'
          · rw [if_pos e, if_pos e]
            have := (right_nums hr').1 k1
            exact ⟨⟨rfl, rfl, rfl, fun n => rfl, fun n => rfl⟩, ⟨by dsimp only; omega, by simp, by simp [hsum]; omega, by dsimp only; omega, by simp, by simp⟩⟩
          · rw [if_neg e, if_neg e]; exact R nm'
      · rw [if_neg k1, if_neg k1]; exact ⟨rfl, R⟩
  | some s =>
    cases hl : kget l nm with
    | none => rw [hA, hl] at Rn; exact Rn.elim
    | some c =>
      rw [hA, hl] at Rn
      obtain ⟨RC, ok⟩ := Rn
      dsimp only
      by_cases k1 : k = 1
      · rw [if_pos k1, if_pos k1, if_pos (by simp)]; exact ⟨rfl, R⟩
      rw [if_neg k1, if_neg k1]
      obtain ⟨e1, e2⟩ := actF_rel ok RC (a := a) (b := b) (h := h) hr' k1
      have eok := doneF_ok ok (a := a) (b := b) (h := h) hr'
      have enm := doneF_nm c k a b h
      have hcn : c.nm = nm := by
        have := List.find?_some hl
        simpa using this
      obtain ⟨i, hi⟩ : ∃ i, kfind l nm = some i := by
        have : (kfind l nm).isSome = true := by rw [hfs, hl]; rfl
        exact Option.isSome_iff_exists.1 this
      by_cases he : (doneF c k a b h).2.2 ≠ 0
      · rw [if_pos he]
        have ha : (actF s k a b h).2.2 ≠ 0 := by rw [e1]; exact he
        obtain ⟨f1, f2⟩ := actF_err ha
        rw [f1, mput_self hA]
        refine ⟨?_, R⟩
        rw [← e1, ← f2]
      · rw [if_neg he]
        replace he : (doneF c k a b h).2.2 = 0 := Classical.not_not.1 he
        refine ⟨by rw [e1, ← he], fun nm' => ?_⟩
        dsimp only
        rw [hi, Option.getD_some, mget_put, kget_set hi (enm.trans hcn)]
        by_cases e : nm = nm'
        · rw [if_pos e, if_pos e]; exact ⟨e2, eok⟩
        · rw [if_neg e, if_neg e]; exact R nm'
end Go.Proofs.Ytfcbcgjgkleonaa
