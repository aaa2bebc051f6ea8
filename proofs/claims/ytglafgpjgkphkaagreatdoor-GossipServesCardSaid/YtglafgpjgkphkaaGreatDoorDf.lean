/- A faster check of an order that is allowed: sets as bits. -/
import Derived.Test.YtglafgpjgkphkaaGreatDoorSd
namespace Go.Proofs.YtglafgpjgkphkaaGreatDoor
open Go.RowKit

def edgeBits : List Edge → Nat
  | [] => 0
  | e :: r => match Region.binds .any e with | true => (1 <<< e.on) ||| edgeBits r | false => edgeBits r
def subB (a b : Nat) : Bool := Nat.beq (a &&& b) a
def readyL (L : Nat) : List Oper → Nat → List Nat
  | [], _ => []
  | o :: r, i => match L.testBit i with
    | true => readyL L r (i + 1)
    | false => match subB (edgeBits o.after.toList) L with | true => i :: readyL L r (i + 1) | false => readyL L r (i + 1)
def reachB (T : List Nat) : List Edge → Nat
  | [] => 0
  | e :: r => match Region.binds .any e with
    | true => match nth T e.on with | some m => ((1 <<< e.on) ||| m) ||| reachB T r | none => reachB T r
    | false => reachB T r
def depT : List Oper → List Nat → List Nat
  | [], T => T
  | o :: r, T => depT r (T ++ [reachB T o.after.toList])
def bitAt (T : List Nat) (j i : Nat) : Bool := match nth T j with | some m => m.testBit i | none => false
def freeF (ops : Array Oper) (T : List Nat) (L i : Nat) (oi : Oper) : List Oper → Nat → Bool
  | [], _ => true
  | oj :: r, j => match Nat.beq j i with
    | true => freeF ops T L i oi r (j + 1)
    | false => match L.testBit j with
      | true => freeF ops T L i oi r (j + 1)
      | false => match bitAt T j i with
        | true => freeF ops T L i oi r (j + 1)
        | false => match oi.apart ops oj with | true => freeF ops T L i oi r (j + 1) | false => false
def oneF (i : Nat) : List Nat → Bool
  | [x] => Nat.beq x i
  | _ => false
def loudOk (T : List Nat) (i : Nat) (rc loads : List Nat) : Bool := loads.all fun j => bitAt T i j || memN rc j
def eqL : List Nat → List Nat → Bool
  | [], [] => true
  | x :: xs, y :: ys => match Nat.beq x y with | true => eqL xs ys | false => false
  | _, _ => false
def ordF (ops : Array Oper) (l : List Oper) (T : List Nat) : Bool → Nat → List Nat → Odr → Nat → Bool
  | alt, L, _, .nil, n => match alt with | true => false | false => match Nat.beq n 0 with | false => false | true => match readyL L l 0 with | [] => true | _ :: _ => false
  | _, _, _, .cons _ _ _, 0 => false
  | _, _, _, .fork _ _ _ _, 0 => false
  | alt, L, loads, .cons i rc rest, n + 1 => match nth l i with
    | none => false
    | some o => match loud o.op with
      | true => match (match alt with | true => true | false => oneF i (readyL L l 0)) with
        | false => false
        | true => match loudOk T i rc loads with
          | true => ordF ops l T false (L ||| (1 <<< i)) (loads.filter (memN rc)) rest n
          | false => false
      | false => match alt with
        | true => false
        | false => match memN (readyL L l 0) i with
          | false => false
          | true => match freeF ops T L i o l 0 with
            | true => ordF ops l T false (L ||| (1 <<< i)) (match isLoad o.op with | true => i :: loads | false => loads) rest n
            | false => false
  | alt, L, loads, .fork i rc rest other, n + 1 => match nth l i with
    | none => false
    | some o => match loud o.op with
      | false => false
      | true => match (match alt with | true => true | false => eqL (readyL L l 0) (i :: heads other)) with
        | false => false
        | true => match loudOk T i rc loads with
          | false => false
          | true => match ordF ops l T false (L ||| (1 <<< i)) (loads.filter (memN rc)) rest n with
            | false => false
            | true => ordF ops l T true L loads other (n + 1)
def noSelL : List Oper → Bool
  | [] => true
  | o :: r => match o.op with | .select .. => false | _ => noSelL r
def drawF (ops : List Oper) (ord : Odr) : Bool :=
  noSelL ops && ordF ops.toArray ops (depT ops []) false 0 [] ord ops.length

/-! ### It says no more than the slow one -/
theorem memN_eq (l : List Nat) (x : Nat) : memN l x = l.contains x := by
  induction l with
  | nil => rfl
  | cons a r ih =>
    simp only [memN, List.contains_cons, ih]
    cases h : Nat.beq a x with
    | true => obtain rfl := Nat.eq_of_beq_eq_true h; simp
    | false =>
      have : ¬ x = a := fun e => by subst e; simp at h
      simp [this]
theorem testBit_one (k i : Nat) : (1 <<< k).testBit i = decide (k = i) := by
  rw [Nat.testBit_shiftLeft]
  by_cases h : k = i
  · subst h; simp
  · by_cases h2 : k ≤ i
    · have : 0 < i - k := by omega
      obtain ⟨m, hm⟩ : ∃ m, i - k = m + 1 := ⟨i - k - 1, by omega⟩
      simp [h, hm, Nat.testBit_succ]
    · simp [h, h2]
theorem edgeBits_spec (l : List Edge) (k : Nat) : (edgeBits l).testBit k = l.any fun e => Region.binds .any e && e.on == k := by
  induction l with
  | nil => simp [edgeBits]
  | cons e r ih =>
    simp only [edgeBits, List.any_cons]
    cases h : Region.binds .any e with
    | true => simp only [Nat.testBit_or, ih, testBit_one, Bool.true_and]; rfl
    | false => simp [ih]
theorem subB_spec {a b : Nat} : subB a b = true ↔ ∀ k, a.testBit k = true → b.testBit k = true := by
  unfold subB
  constructor
  · intro h k hk
    have h := Nat.eq_of_beq_eq_true h
    rw [← h, Nat.testBit_and] at hk
    simp at hk; exact hk.2
  · intro h
    have : a &&& b = a := by
      apply Nat.eq_of_testBit_eq
      intro k
      rw [Nat.testBit_and]
      cases ha : a.testBit k with
      | true => simp [h k ha]
      | false => simp
    rw [this]; simp

/-- The bits are the list's. -/
def RelB (n L : Nat) (listed : Array Bool) : Prop := listed.size = n ∧ ∀ k, L.testBit k = listed.getD k false
theorem RelB.getT {n L : Nat} {listed : Array Bool} (h : RelB n L listed) {k : Nat} (hk : k < n) : listed.getD k true = L.testBit k := by
  rw [h.2 k]
  have : k < listed.size := by rw [h.1]; exact hk
  simp [Array.getD_eq_getD_getElem?, this]
theorem RelB.set {n L : Nat} {listed : Array Bool} (h : RelB n L listed) {i : Nat} (hi : i < n) : RelB n (L ||| (1 <<< i)) (listed.setIfInBounds i true) := by
  refine ⟨by simp [h.1], fun k => ?_⟩
  rw [Nat.testBit_or, h.2 k, testBit_one]
  simp only [Array.getD_eq_getD_getElem?, Array.getElem?_setIfInBounds]
  by_cases hk : i = k
  · subst hk; simp [h.1, hi]
  · simp [hk]
theorem RelB.zero (n : Nat) : RelB n 0 (Array.replicate n false) := ⟨by simp, fun k => by simp [Array.getD_eq_getD_getElem?, Array.getElem?_replicate]; split <;> rfl⟩

theorem readyL_eq {ops : Array Oper} {L : Nat} {listed : Array Bool} (h : RelB ops.size L listed) : ∀ (l : List Oper) (i m : Nat), ops.toList.drop i = l → i + m = ops.size →
    readyL L l i = (List.range' i m).filter fun i => !listed.getD i true && ((ops[i]?).map (·.after.all fun e => !Region.binds .any e || listed.getD e.on false)).getD false
  | [], i, m, hl, hm => by
    have : m = 0 := by have := congrArg List.length hl; simp at this; omega
    subst this; rfl
  | o :: r, i, m, hl, hm => by
    have hlt : i < ops.size := by have := congrArg List.length hl; simp at this; omega
    obtain ⟨m', rfl⟩ : ∃ m', m = m' + 1 := ⟨m - 1, by omega⟩
    have hl' := hl
    rw [List.drop_eq_getElem_cons (by simpa using hlt)] at hl'
    simp only [List.cons.injEq] at hl'
    have ho : ops[i]? = some o := by rw [Array.getElem?_eq_getElem hlt]; simpa using hl'.1
    have ih := readyL_eq h r (i + 1) m' hl'.2 (by omega)
    simp only [List.range'_succ, List.filter_cons, ho, Option.map_some, Option.getD_some, h.getT hlt]
    simp only [readyL]
    rw [ih]
    have e1 : subB (edgeBits o.after.toList) L = o.after.all fun e => !Region.binds .any e || listed.getD e.on false := by
      rw [Bool.eq_iff_iff, subB_spec]
      rw [← Array.all_toList]
      simp only [edgeBits_spec, List.any_eq_true, Bool.and_eq_true, beq_iff_eq, List.all_eq_true, Bool.or_eq_true, Bool.not_eq_true']
      constructor
      · intro hh e he
        cases hb : Region.binds .any e with
        | false => exact .inl rfl
        | true => exact .inr ((h.2 _).symm.trans (hh e.on ⟨e, he, hb, rfl⟩))
      · rintro hh k ⟨e, he, hb, rfl⟩
        rcases hh e he with h1 | h1
        · rw [hb] at h1; cases h1
        · rw [h.2]; exact h1
    rw [e1]
    cases L.testBit i <;> cases (o.after.all fun e => !Region.binds .any e || listed.getD e.on false) <;> simp
theorem readyL_ready {ops : Array Oper} {L : Nat} {listed : Array Bool} (h : RelB ops.size L listed) : readyL L ops.toList 0 = Region.ready .any ops listed := by
  rw [readyL_eq h ops.toList 0 ops.size (by simp) (by omega)]
  unfold Region.ready
  rw [List.range_eq_range']

theorem depF_more {ops : Array Oper} : ∀ {n m j i : Nat}, n ≤ m → depF ops n j i = true → depF ops m j i = true
  | 0, _, _, _, _, h => by simp [depF] at h
  | n + 1, 0, _, _, hle, _ => by omega
  | n + 1, m + 1, j, i, hle, h => by
    simp only [depF] at h ⊢
    split at h
    · rename_i o ho
      rw [← Array.any_toList] at h ⊢
      simp only [List.any_eq_true, Bool.and_eq_true, Bool.or_eq_true] at h ⊢
      obtain ⟨e, he, hb, h1⟩ := h
      refine ⟨e, he, hb, h1.imp id fun h2 => depF_more (by omega) h2⟩
    · cases h
theorem reachB_spec {ops : Array Oper} {T : List Nat} (hT : ∀ j m i, nth T j = some m → m.testBit i = true → depF ops (j + 1) j i = true) (i : Nat) : ∀ (l : List Edge), (reachB T l).testBit i = true → ∃ e ∈ l, Region.binds .any e = true ∧ e.on < T.length ∧ (e.on = i ∨ depF ops (e.on + 1) e.on i = true)
  | [], h => by simp [reachB] at h
  | e :: r, h => by
    simp only [reachB] at h
    split at h
    · rename_i hb
      split at h
      · rename_i m hm
        rw [Nat.testBit_or, Nat.testBit_or, testBit_one] at h
        simp only [Bool.or_eq_true, decide_eq_true_eq] at h
        rcases h with (h | h) | h
        · exact ⟨e, by simp, hb, nth_lt hm, .inl h⟩
        · exact ⟨e, by simp, hb, nth_lt hm, .inr (hT _ _ _ hm h)⟩
        · obtain ⟨e', he', h'⟩ := reachB_spec hT i r h
          exact ⟨e', by simp [he'], h'⟩
      · obtain ⟨e', he', h'⟩ := reachB_spec hT i r h
        exact ⟨e', by simp [he'], h'⟩
    · obtain ⟨e', he', h'⟩ := reachB_spec hT i r h
      exact ⟨e', by simp [he'], h'⟩
theorem depT_spec {ops : Array Oper} : ∀ (l : List Oper) (T : List Nat), ops.toList.drop T.length = l → (∀ j m i, nth T j = some m → m.testBit i = true → depF ops (j + 1) j i = true) → ∀ j m i, nth (depT l T) j = some m → m.testBit i = true → depF ops (j + 1) j i = true
  | [], T, _, hT => hT
  | o :: r, T, hl, hT => by
    have hlt : T.length < ops.size := by have := congrArg List.length hl; simp at this; omega
    have hl' := hl
    rw [List.drop_eq_getElem_cons (by simpa using hlt)] at hl'
    simp only [List.cons.injEq] at hl'
    have ho : ops[T.length]? = some o := by rw [Array.getElem?_eq_getElem hlt]; simpa using hl'.1
    refine depT_spec r (T ++ [reachB T o.after.toList]) (by simpa using hl'.2) ?_
    intro j m i hj hm
    rw [nth_append] at hj
    split at hj
    · rename_i hjl
      simp at hj; subst hj; subst hjl
      obtain ⟨e, he, hb, hlt', h2⟩ := reachB_spec hT i _ hm
      show depF ops (T.length + 1) T.length i = true
      simp only [depF, ho]
      rw [← Array.any_toList]
      simp only [List.any_eq_true, Bool.and_eq_true, Bool.or_eq_true, beq_iff_eq]
      exact ⟨e, by simpa using he, hb, h2.imp id fun h3 => depF_more (by omega) h3⟩
    · exact hT j m i hj hm
theorem depT_len : ∀ (l : List Oper) (T : List Nat), (depT l T).length = T.length + l.length
  | [], T => rfl
  | o :: r, T => by rw [depT, depT_len r]; simp; omega
theorem bitAt_dep {ops : Array Oper} {j i : Nat} (h : bitAt (depT ops.toList []) j i = true) : dep ops j i = true := by
  unfold bitAt at h
  split at h
  · rename_i m hm
    have h1 := depT_spec (ops := ops) ops.toList [] rfl (by intro j m i h; simp [nth] at h) j m i hm h
    have hl := nth_lt hm
    rw [depT_len] at hl
    simp at hl
    exact depF_more (by omega) h1
  · cases h

theorem freeF_spec {ops : Array Oper} {L i : Nat} {listed : Array Bool} {oi : Oper} (h : RelB ops.size L listed) : ∀ (l : List Oper) (j : Nat), ops.toList.drop j = l → freeF ops (depT ops.toList []) L i oi l j = true →
    ∀ k, j ≤ k → k < ops.size → (k == i || listed.getD k true || dep ops k i || (match ops[k]? with | some oj => oi.apart ops oj | none => true)) = true
  | [], j, hl, _, k, h1, h2 => by have := congrArg List.length hl; simp at this; omega
  | o :: r, j, hl, hf, k, h1, h2 => by
    have hlt : j < ops.size := by have := congrArg List.length hl; simp at this; omega
    have hl' := hl
    rw [List.drop_eq_getElem_cons (by simpa using hlt)] at hl'
    simp only [List.cons.injEq] at hl'
    have ho : ops[j]? = some o := by rw [Array.getElem?_eq_getElem hlt]; simpa using hl'.1
    have ih := fun hf' => freeF_spec (oi := oi) (i := i) h r (j + 1) hl'.2 hf'
    simp only [freeF] at hf
    by_cases hk : k = j
    · subst hk
      rw [h.getT hlt, ho]
      dsimp only
      split at hf
      · rename_i hb; simp [Nat.eq_of_beq_eq_true hb]
      · split at hf
        · rename_i hb; simp [hb]
        · split at hf
          · rename_i hb; simp [bitAt_dep hb]
          · split at hf
            · rename_i hb; simp [hb]
            · cases hf
    · have hjk : j + 1 ≤ k := by omega
      split at hf
      · exact ih hf k hjk h2
      · split at hf
        · exact ih hf k hjk h2
        · split at hf
          · exact ih hf k hjk h2
          · split at hf
            · exact ih hf k hjk h2
            · cases hf

theorem eqL_eq : ∀ {a b : List Nat}, eqL a b = true → a = b
  | [], [], _ => rfl
  | x :: xs, y :: ys, h => by
    simp only [eqL] at h
    split at h
    · rename_i hb
      rw [Nat.eq_of_beq_eq_true hb, eqL_eq h]
    · cases h
  | [], _ :: _, h => by simp [eqL] at h
  | _ :: _, [], h => by simp [eqL] at h
theorem oneF_eq {i : Nat} {l : List Nat} (h : oneF i l = true) : l = [i] := by
  unfold oneF at h
  split at h
  · rw [Nat.eq_of_beq_eq_true h]
  · cases h
theorem loudOk_eq {ops : Array Oper} {i : Nat} {rc loads : List Nat} (h : loudOk (depT ops.toList []) i rc loads = true) : (loads.all fun j => dep ops i j || rc.contains j) = true := by
  unfold loudOk at h
  rw [List.all_eq_true] at h ⊢
  intro j hj
  have := h j hj
  simp only [Bool.or_eq_true] at this ⊢
  rcases this with h1 | h1
  · exact .inl (bitAt_dep h1)
  · exact .inr (by rw [← memN_eq]; exact h1)
theorem filter_memN (loads rc : List Nat) : loads.filter (memN rc) = loads.filter rc.contains := by congr 1; funext x; exact memN_eq rc x

theorem ordF_ok {ops : Array Oper} : ∀ (ord : Odr) (alt : Bool) (L : Nat) (listed : Array Bool) (loads : List Nat) (n : Nat), RelB ops.size L listed → ordF ops ops.toList (depT ops.toList []) alt L loads ord n = true → ordOk ops alt listed loads ord n = true
  | .nil, alt, L, listed, loads, n, hr, h => by
    simp only [ordF] at h
    rw [readyL_ready hr] at h
    split at h
    · cases h
    · split at h
      · cases h
      · rename_i hn
        split at h
        · rename_i e; simp [ordOk, hn, e]
        · cases h
  | .cons i rc rest, alt, L, listed, loads, 0, hr, h => by simp [ordF] at h
  | .fork i rc rest other, alt, L, listed, loads, 0, hr, h => by simp [ordF] at h
  | .cons i rc rest, alt, L, listed, loads, n + 1, hr, h => by
    simp only [ordF] at h
    rw [readyL_ready hr] at h
    split at h
    · cases h
    · rename_i o ho
      rw [nth_eq] at ho
      have hoi : ops[i]? = some o := by simpa using ho
      have hilt : i < ops.size := (Array.getElem?_eq_some_iff.1 hoi).1
      simp only [ordOk, hoi]
      split at h
      · rename_i hl
        rw [if_pos hl]
        split at h
        · cases h
        · rename_i hone
          split at h
          · rename_i hlo
            rw [loudOk_eq hlo]
            rw [filter_memN] at h
            have e := ordF_ok rest _ _ _ _ _ (hr.set hilt) h
            rw [e]
            cases alt with
            | true => rfl
            | false => rw [oneF_eq hone]; simp
          · cases h
      · rename_i hl
        rw [if_neg (by simp [hl])]
        split at h
        · cases h
        · split at h
          · cases h
          · rename_i hmem
            rw [memN_eq] at hmem
            split at h
            · rename_i hf
              have e1 : freeD ops listed i o = true := by
                unfold freeD
                rw [List.all_eq_true]
                intro j hj
                exact freeF_spec hr ops.toList 0 (by simp) hf j (Nat.zero_le _) (List.mem_range.1 hj)
              have e2 : (match isLoad o.op with | true => i :: loads | false => loads) = if isLoad o.op then i :: loads else loads := by cases isLoad o.op <;> rfl
              rw [e2] at h
              rw [e1, hmem, ordF_ok rest _ _ _ _ _ (hr.set hilt) h]
              rfl
            · cases h
  | .fork i rc rest other, alt, L, listed, loads, n + 1, hr, h => by
    simp only [ordF] at h
    rw [readyL_ready hr] at h
    split at h
    · cases h
    · rename_i o ho
      rw [nth_eq] at ho
      have hoi : ops[i]? = some o := by simpa using ho
      have hilt : i < ops.size := (Array.getElem?_eq_some_iff.1 hoi).1
      simp only [ordOk, hoi]
      split at h
      · cases h
      · rename_i hl
        split at h
        · cases h
        · rename_i hone
          split at h
          · cases h
          · rename_i hlo
            split at h
            · cases h
            · rename_i hrest
              rw [filter_memN] at hrest
              rw [hl, loudOk_eq hlo, ordF_ok rest _ _ _ _ _ (hr.set hilt) hrest, ordF_ok other _ _ _ _ _ hr h]
              cases alt with
              | true => rfl
              | false => rw [eqL_eq hone]; simp

theorem noSelL_ok : ∀ (l : List Oper), noSelL l = true → ∀ o ∈ l, (match o.op with | .select .. => false | _ => true) = true
  | [], _, _, h => by cases h
  | o :: r, h, x, hx => by
    simp only [noSelL] at h
    split at h
    · cases h
    · rename_i hne
      rcases List.mem_cons.1 hx with rfl | hx
      · split
        · rename_i heq; exact (hne _ _ heq).elim
        · rfl
      · exact noSelL_ok r h x hx

/-- The faster check serves. -/
theorem drawF_ok {ops : List Oper} {ord : Odr} (h : drawF ops ord = true) : drawOk ops ord = true := by
  unfold drawF at h
  simp only [Bool.and_eq_true] at h
  obtain ⟨h1, h3⟩ := h
  unfold drawOk
  simp only [Bool.and_eq_true]
  refine ⟨?_, ?_⟩
  · unfold Region.noSelect
    rw [← Array.all_toList]
    rw [List.all_eq_true]
    exact noSelL_ok ops h1
  · exact ordF_ok (ops := ops.toArray) ord false 0 (Array.replicate ops.length false) [] _ (by simpa using RelB.zero ops.length) (by simpa using h3)
end Go.Proofs.YtglafgpjgkphkaaGreatDoor
