/- The document's views: Take, About, Known. The document's views: About, Known. -/
import Derived.Test.YtglafgpjgkphkaaGreatDoorBnVa
namespace Go.Proofs.YtglafgpjgkphkaaGreatDoor
section
set_option maxRecDepth 100000
set_option linter.unusedSimpArgs false
set_option linter.unusedVariables false
set_option maxHeartbeats 4000000
open Go.RowKit

theorem bytesLess_lt : ∀ (x y : List UInt8), Op.bytesLess x y = decide (x < y)
  | [], [] => by simp [Op.bytesLess]
  | _ :: _, [] => by simp [Op.bytesLess]
  | [], _ :: _ => by simp [Op.bytesLess]
  | a :: x, b :: y => by
    rw [Op.bytesLess, bytesLess_lt x y]
    simp only [List.cons_lt_cons_iff]
    by_cases h1 : a < b <;> by_cases h2 : a = b <;> by_cases h3 : x < y <;> simp [h1, h2, h3]
theorem ltS_iff {a b : ByteArray} : ltS a b = true ↔ a.toList < b.toList := by unfold ltS; rw [bytesLess_lt]; simp
theorem leS_eq (a b : ByteArray) : (Op.bytesLess a.toList b.toList || a.toList == b.toList) = !ltS b a := by
  unfold ltS
  rw [bytesLess_lt, bytesLess_lt, Bool.eq_iff_iff]
  simp only [Bool.or_eq_true, decide_eq_true_eq, beq_iff_eq, Bool.not_eq_true', decide_eq_false_iff_not]
  constructor
  · rintro (h | h)
    · exact List.lt_asymm h
    · rw [h]; exact List.lt_irrefl _
  · intro h
    rcases Decidable.em (a.toList < b.toList) with e | e
    · exact .inl e
    · exact .inr (List.le_antisymm (List.not_lt.1 h) (List.not_lt.1 e))

def freshR (All : List (Int × Vw)) (r : Int) (L : List Vw) : Nat := L.countP fun x => decide ((lastF All r x.nm).ver = 0)
def take1R (r : Int) (a : List (Int × Vw) × Nat) (x : Vw) : List (Int × Vw) × Nat := if (lastF a.1 r x.nm).ver < x.ver then (a.1 ++ [(r, x)], a.2 + 1) else a
def takesR (All : List (Int × Vw)) (r : Int) (L : List Vw) : List (Int × Vw) × Nat := L.foldl (take1R r) (All, 0)
def Rv.take (s : Rv) (r : Int) (L : List Vw) : Rv × Int × Int :=
  if r < 0 ∨ s.n ≤ r ∨ r = s.me then (s, 0, 3) else if 64 < L.length then (s, 0, 2) else if goodL L = false then (s, 0, 1) else
  if 64 < (namesF s.All r).length + freshR s.All r L then (s, 0, 102) else ({ s with All := (takesR s.All r L).1 }, ((takesR s.All r L).2 : Int), 0)
theorem freshR_next {All : List (Int × Vw)} {r : Int} {L : List Vw} {i : Nat} {x : Vw} (hx : L[i]? = some x) : freshR All r (L.take (i + 1)) = freshR All r (L.take i) + if (lastF All r x.nm).ver = 0 then 1 else 0 := by
  unfold freshR
  rw [List.take_add_one, hx]
  simp [List.countP_append, List.countP_cons]
theorem takesR_next {All : List (Int × Vw)} {r : Int} {L : List Vw} {i : Nat} {x : Vw} (hx : L[i]? = some x) : takesR All r (L.take (i + 1)) = take1R r (takesR All r (L.take i)) x := by
  unfold takesR
  rw [List.take_add_one, hx]
  simp
theorem takesR_len (All : List (Int × Vw)) (r : Int) (L : List Vw) : ∀ i, i ≤ L.length → (takesR All r (L.take i)).1.length ≤ All.length + i ∧ (takesR All r (L.take i)).2 ≤ i
  | 0, _ => by simp [takesR]
  | i + 1, hi => by
    have ih := takesR_len All r L i (by omega)
    have hx : L[i]? = some L[i] := List.getElem?_eq_getElem _
    rw [takesR_next hx]
    unfold take1R
    split
    · simp; omega
    · omega

theorem rTake_ok {p : Nat} {o : Option Addr} {cap : Nat} {s : Rv} {w : World} (hR : (rvRes p o cap s).R w) (hl : s.All.length ≤ 100000) (r : Int) {o2 : Option Addr} {L : List Vw} (cap2 : Nat) (hL : (readRes o2 (L.flatMap Vw.l)).R w) (hLlt : ∀ x ∈ (readRes o2 (L.flatMap Vw.l)).fp, x < w.heap.size) (hap : ∀ x ∈ (rvRes p o cap s).fp, x ∉ (readRes o2 (L.flatMap Vw.l)).fp) :
    Calls Tryz.prog 57 #[pV p, .int .i64 r, .slice o2 L.length cap2] w fun e w' => ∃ y : Option Addr × Nat, e = .returned (.tuple #[.int .i64 (s.take r L).2.1, .int .i64 (s.take r L).2.2]) ∧ True ∧ Post (rvRes p o cap s) (rvRes p y.1 y.2 (s.take r L).1) w w' := by
  obtain ⟨it, hit, hparts⟩ := Option.map_eq_some_iff.1 infoEnt
  simp only [Prod.mk.injEq] at hparts
  have hI0 : Inv (cx 123 [(20, .of [(0, []), (1, []), (2, []), (3, []), (4, []), (5, []), (6, []), (7, []), (8, []), (9, []), (10, []), (11, []), (12, [4]), (13, []), (14, [])]), (21, .of [(0, []), (1, []), (2, []), (3, []), (4, []), (5, []), (6, []), (7, []), (8, []), (9, []), (10, []), (11, [4]), (12, []), (13, []), (14, []), (15, [])])] (rvRes p o cap s).fp w) w [p, 0] (rvMem o cap s) := memRes_open hR fun x hx => hx
  have hI := hI0.consR (t := 104) (rw_ := false) (r := readRes o2 (L.flatMap Vw.l)) (fun x hx hm => hap x hm hx) hL hLlt (by simp)
  refine calls_sm (cx 123 [(20, .of [(0, []), (1, []), (2, []), (3, []), (4, []), (5, []), (6, []), (7, []), (8, []), (9, []), (10, []), (11, []), (12, [4]), (13, []), (14, [])]), (21, .of [(0, []), (1, []), (2, []), (3, []), (4, []), (5, []), (6, []), (7, []), (8, []), (9, []), (10, []), (11, [4]), (12, []), (13, []), (14, []), (15, [])])] (rvRes p o cap s).fp w) (vals := [.ptr 0 0, .int .i64 r, .raw (.slice o2 L.length cap2)]) mixed Tryz.func57 rfl rfl rfl hI rfl (st rfl ?_); conv => arg 3; whnf
  by_cases h1 : r < 0
  · (repeat ((first | refine n_must rfl ?_ | refine n_chk (drawF_ok (by decide +kernel)) ?_ | refine n_same rfl ?_ | ((first | refine n_must ?_ ?_ | refine n_brT ?_ ?_); (focus (first | (simp [h1]; done) | (simp [h1]; omega) | (simp only [h1]; simp; done)))) | (refine n_brF ?_ ?_; (focus (first | (simp [h1]; done) | (simp [h1]; omega) | (simp only [h1]; simp; done)))) | refine n_must (by (with_reducible refine and_shape ?_) <;> kernel_rfl) ?_); (refine gs ?_)))
    have e : s.take r L = (s, 0, 3) := by rw [Rv.take, if_pos (.inl h1)]
    rw [e]
    exact n_ret0 rfl rfl fun ids' w' hp hI' => ⟨(o, cap), rfl, trivial, post_shut hI' rfl [0, 1] (.blk rfl (pre_at hp rfl) rfl rfl (.res rfl .nil)) (by simp)⟩
  by_cases h2 : s.n ≤ r
  · (repeat ((first | refine n_must rfl ?_ | refine n_chk (drawF_ok (by decide +kernel)) ?_ | refine n_same rfl ?_ | ((first | refine n_must ?_ ?_ | refine n_brT ?_ ?_); (focus (first | (simp [h1, h2]; done) | (simp [h1, h2]; omega) | (simp only [h1, h2]; simp; done)))) | (refine n_brF ?_ ?_; (focus (first | (simp [h1, h2]; done) | (simp [h1, h2]; omega) | (simp only [h1, h2]; simp; done)))) | refine n_must (by (with_reducible refine and_shape ?_) <;> kernel_rfl) ?_); (refine gs ?_)))
    have e : s.take r L = (s, 0, 3) := by rw [Rv.take, if_pos (.inr (.inl h2))]
    rw [e]
    exact n_ret0 rfl rfl fun ids' w' hp hI' => ⟨(o, cap), rfl, trivial, post_shut hI' rfl [0, 1] (.blk rfl (pre_at hp rfl) rfl rfl (.res rfl .nil)) (by simp)⟩
  by_cases h3 : r = s.me
  · (repeat ((first | refine n_must rfl ?_ | refine n_chk (drawF_ok (by decide +kernel)) ?_ | refine n_same rfl ?_ | ((first | refine n_must ?_ ?_ | refine n_brT ?_ ?_); (focus (first | (simp [h1, h2, h3]; done) | (simp [h1, h2, h3]; omega) | (simp only [h1, h2, h3]; simp; done)))) | (refine n_brF ?_ ?_; (focus (first | (simp [h1, h2, h3]; done) | (simp [h1, h2, h3]; omega) | (simp only [h1, h2, h3]; simp; done)))) | refine n_must (by (with_reducible refine and_shape ?_) <;> kernel_rfl) ?_); (refine gs ?_)))
    have e : s.take r L = (s, 0, 3) := by rw [Rv.take, if_pos (.inr (.inr h3))]
    rw [e]
    exact n_ret0 rfl rfl fun ids' w' hp hI' => ⟨(o, cap), rfl, trivial, post_shut hI' rfl [0, 1] (.blk rfl (pre_at hp rfl) rfl rfl (.res rfl .nil)) (by simp)⟩
  by_cases h4 : 64 < L.length
  · (repeat ((first | refine n_must rfl ?_ | refine n_chk (drawF_ok (by decide +kernel)) ?_ | refine n_same rfl ?_ | ((first | refine n_must ?_ ?_ | refine n_brT ?_ ?_); (focus (first | (simp [h1, h2, h3, h4]; done) | (simp [h1, h2, h3, h4]; omega) | (simp only [h1, h2, h3, h4]; simp; done)))) | (refine n_brF ?_ ?_; (focus (first | (simp [h1, h2, h3, h4]; done) | (simp [h1, h2, h3, h4]; omega) | (simp only [h1, h2, h3, h4]; simp; done)))) | refine n_must (by (with_reducible refine and_shape ?_) <;> kernel_rfl) ?_); (refine gs ?_)))
    have e : s.take r L = (s, 0, 2) := by rw [Rv.take, if_neg (by omega), if_pos h4]
    rw [e]
    exact n_ret0 rfl rfl fun ids' w' hp hI' => ⟨(o, cap), rfl, trivial, post_shut hI' rfl [0, 1] (.blk rfl (pre_at hp rfl) rfl rfl (.res rfl .nil)) (by simp)⟩
  have hno : ¬ (r < 0 ∨ s.n ≤ r ∨ r = s.me) := by omega
  (repeat ((first | refine n_must rfl ?_ | refine n_chk (drawF_ok (by decide +kernel)) ?_ | refine n_same rfl ?_ | ((first | refine n_must ?_ ?_ | refine n_brT ?_ ?_); (focus (first | (simp [h1, h2, h3, h4]; done) | (simp [h1, h2, h3, h4]; omega) | (simp only [h1, h2, h3, h4]; simp; done)))) | (refine n_brF ?_ ?_; (focus (first | (simp [h1, h2, h3, h4]; done) | (simp [h1, h2, h3, h4]; omega) | (simp only [h1, h2, h3, h4]; simp; done)))) | refine n_must (by (with_reducible refine and_shape ?_) <;> kernel_rfl) ?_); (refine gs ?_)))
  refine n_loop (σ := Nat) (fun i => [(0, .ptr 0 0), (1, .int .i64 r), (2, .raw (.slice o2 L.length cap2)), (8, .int .i64 (freshR s.All r (L.take i) : Nat)), (9, .int .i64 (i : Nat))]) (fun _ => rvMem o cap s ++ [⟨104, [.res (readRes o2 (L.flatMap Vw.l))], false⟩]) (fun i => i ≤ L.length ∧ ∀ j, j < i → okAt L j = true) (fun i => L.length - i) 0 mixed ⟨by omega, by omega⟩ (fun _ _ => rfl) rfl (by (repeat (first | exact trivial | refine ⟨⟨rfl, rfl⟩, ?_⟩))) (fun s _ => ⟨by (repeat (first | exact trivial | refine ⟨⟨_, rfl⟩, ?_⟩)), by (repeat (first | exact trivial | refine ⟨⟨_, rfl⟩, ?_⟩))⟩) fun i hJ => ?_
  obtain ⟨hi, hJ⟩ := hJ
  (refine gs ?_)
  by_cases hlt : i < L.length
  · have ei : IntKind.i64.wrap ((i : Int) + 1) = ((i + 1 : Nat) : Int) := by rw [w64 (by omega) (by omega)]; simp
    obtain ⟨a, rfl⟩ := read_some hL (by omega)
    have hx : L[i]? = some L[i] := List.getElem?_eq_getElem _
    have hd : L.getD i Vw.zero = L[i] := by simp [List.getD, hx]
    generalize L[i] = x at hx hd
    refine gw ?_
    refine n_ldI (.agg x.sv) rfl rfl (fun _ w1 _ hI1 => read_row (hI1.res 2 rfl rfl) hx (by simp)) ?_
    (refine gs ?_)
    refine gw ?_
    refine n_sameP (.bool (rightB x)) rfl rfl rfl (fun _ w1 hp1 hI1 => rRight_ok x w1) ?_; (refine gs ?_)
    refine gw ?_
    by_cases hr1 : rightB x = true
    · (repeat ((first | refine n_must rfl ?_ | refine n_chk (drawF_ok (by decide +kernel)) ?_ | refine n_same rfl ?_ | ((first | refine n_must ?_ ?_ | refine n_brT ?_ ?_); (focus (first | (simp [hr1]; done) | (simp [hr1]; omega) | (simp only [hr1]; simp; done)))) | (refine n_brF ?_ ?_; (focus (first | (simp [hr1]; done) | (simp [hr1]; omega) | (simp only [hr1]; simp; done)))) | refine n_must (by (with_reducible refine and_shape ?_) <;> kernel_rfl) ?_); (refine gs ?_)))
      by_cases hi0 : i = 0
      · have hok : okAt L i = true := by subst hi0; simp only [okAt, hd, hr1]; rfl
        (repeat ((first | refine n_must rfl ?_ | refine n_chk (drawF_ok (by decide +kernel)) ?_ | refine n_same rfl ?_ | ((first | refine n_must ?_ ?_ | refine n_brT ?_ ?_); (focus (first | (simp [hi0]; done) | (simp [hi0]; omega) | (simp only [hi0]; simp; done)))) | (refine n_brF ?_ ?_; (focus (first | (simp [hi0]; done) | (simp [hi0]; omega) | (simp only [hi0]; simp; done)))) | refine n_must (by (with_reducible refine and_shape ?_) <;> kernel_rfl) ?_); (refine gs ?_)))
        refine gw ?_
        refine n_ldI (.str x.nm) rfl rfl (fun _ w1 _ hI1 => load_cell aggStr (read_cell (hI1.res 2 rfl rfl) hx (j := 0) rfl (by simp [add_add]))) ?_
        (refine gs ?_)
        refine gw ?_
        refine n_sameP (.agg (lastF s.All r x.nm).sv) rfl rfl rfl (fun _ w1 hp1 hI1 => last_ok (rv_at hI1 0 rfl rfl (pre_at hp1 rfl)) (by omega) r x.nm) ?_; (refine gs ?_)
        have hJ' : i + 1 ≤ L.length ∧ ∀ j, j < i + 1 → okAt L j = true := ⟨by omega, fun j hj => by
          rcases Nat.lt_or_ge j i with h | h
          · exact hJ j h
          · obtain rfl : j = i := by omega
            exact hok⟩
        have hfr := freshR_next (All := s.All) (r := r) hx
        have hfl : freshR s.All r (L.take i) ≤ i := by
          unfold freshR
          have := List.countP_le_length (p := fun x : Vw => decide ((lastF s.All r x.nm).ver = 0)) (l := L.take i)
          rw [List.length_take] at this
          omega
        by_cases hm : (lastF s.All r x.nm).ver = 0
        · rw [if_pos hm] at hfr
          have ef : IntKind.i64.wrap ((freshR s.All r (L.take i) : Int) + 1) = ((freshR s.All r (L.take (i + 1)) : Nat) : Int) := by rw [w64 (by omega) (by omega), hfr]; simp
          (repeat ((first | refine n_must rfl ?_ | refine n_chk (drawF_ok (by decide +kernel)) ?_ | refine n_same rfl ?_ | ((first | refine n_must ?_ ?_ | refine n_brT ?_ ?_); (focus (first | (simp [hm]; done) | (simp [hm]; omega) | (simp only [hm]; simp; done)))) | (refine n_brF ?_ ?_; (focus (first | (simp [hm]; done) | (simp [hm]; omega) | (simp only [hm]; simp; done)))) | refine n_must (by (with_reducible refine and_shape ?_) <;> kernel_rfl) ?_); (refine gs ?_)))
          exact n_again ⟨i + 1, hJ', by omega, (by (repeat (first | exact trivial | refine ⟨⟨rfl, rfl⟩, ?_⟩ | refine ⟨⟨rfl, congrArg (SV.int .i64) ei⟩, ?_⟩ | refine ⟨⟨rfl, congrArg (SV.int .i64) ef⟩, ?_⟩))), ⟨_, rfl⟩⟩
        · rw [if_neg hm] at hfr
          (repeat ((first | refine n_must rfl ?_ | refine n_chk (drawF_ok (by decide +kernel)) ?_ | refine n_same rfl ?_ | ((first | refine n_must ?_ ?_ | refine n_brT ?_ ?_); (focus (first | (simp [hm]; done) | (simp [hm]; omega) | (simp only [hm]; simp; done)))) | (refine n_brF ?_ ?_; (focus (first | (simp [hm]; done) | (simp [hm]; omega) | (simp only [hm]; simp; done)))) | refine n_must (by (with_reducible refine and_shape ?_) <;> kernel_rfl) ?_); (refine gs ?_)))
          exact n_again ⟨i + 1, hJ', by omega, (by (repeat (first | exact trivial | refine ⟨⟨rfl, rfl⟩, ?_⟩ | refine ⟨⟨rfl, congrArg (SV.int .i64) ei⟩, ?_⟩ | refine ⟨⟨rfl, congrArg (fun n : Nat => SV.int .i64 (n : Int)) hfr.symm⟩, ?_⟩))), ⟨_, rfl⟩⟩
      · have em : IntKind.i64.wrap ((i : Int) - 1) = ((i - 1 : Nat) : Int) := by rw [w64 (by omega) (by omega)]; omega
        have hi1 : 0 < i := by omega
        have hx1 : L[i - 1]? = some L[i - 1] := List.getElem?_eq_getElem _
        have hd1 : L.getD (i - 1) Vw.zero = L[i - 1] := by simp only [List.getD, hx1]; rfl
        generalize L[i - 1] = y at hx1 hd1
        (repeat ((first | refine n_must rfl ?_ | refine n_chk (drawF_ok (by decide +kernel)) ?_ | refine n_same rfl ?_ | ((first | refine n_must ?_ ?_ | refine n_brT ?_ ?_); (focus (first | (simp [hi1, em]; done) | (simp [hi1, em]; omega) | (simp only [hi1, em]; simp; done)))) | (refine n_brF ?_ ?_; (focus (first | (simp [hi1, em]; done) | (simp [hi1, em]; omega) | (simp only [hi1, em]; simp; done)))) | refine n_must (by (with_reducible refine and_shape ?_) <;> kernel_rfl) ?_); (refine gs ?_)))
        refine n_ldDI (.str x.nm) rfl rfl (fun _ w1 _ hI1 => load_cell aggStr (read_cell (hI1.res 2 rfl rfl) hx (j := 0) rfl (by simp [add_add]))) ?_
        (refine gs ?_)
        (repeat ((first | refine n_must rfl ?_ | refine n_chk (drawF_ok (by decide +kernel)) ?_ | refine n_same rfl ?_ | ((first | refine n_must ?_ ?_ | refine n_brT ?_ ?_); (focus (first | (simp [em]; done) | (simp [em]; omega) | (simp only [em]; simp; done)))) | (refine n_brF ?_ ?_; (focus (first | (simp [em]; done) | (simp [em]; omega) | (simp only [em]; simp; done)))) | refine n_must (by (with_reducible refine and_shape ?_) <;> kernel_rfl) ?_); (refine gs ?_)))
        refine n_ldDI (.str y.nm) rfl rfl (fun _ w1 _ hI1 => load_cell aggStr (read_cell (hI1.res 2 rfl rfl) hx1 (j := 0) rfl (by simp [em, add_add]))) ?_
        (refine gs ?_)
        refine gg ?_
        cases hlts : ltS y.nm x.nm with
        | true =>
          have hok : okAt L i = true := by simp only [okAt, hd, hd1, hr1, hlts, Bool.or_true, Bool.and_self]
          refine n_brF (by rw [leS_eq, hlts]; rfl) ?_
          (refine gs ?_)
          refine gw ?_
          refine n_ldI (.str x.nm) rfl rfl (fun _ w1 _ hI1 => load_cell aggStr (read_cell (hI1.res 2 rfl rfl) hx (j := 0) rfl (by simp [add_add]))) ?_
          (refine gs ?_)
          refine gw ?_
          refine n_sameP (.agg (lastF s.All r x.nm).sv) rfl rfl rfl (fun _ w1 hp1 hI1 => last_ok (rv_at hI1 0 rfl rfl (pre_at hp1 rfl)) (by omega) r x.nm) ?_; (refine gs ?_)
          have hJ' : i + 1 ≤ L.length ∧ ∀ j, j < i + 1 → okAt L j = true := ⟨by omega, fun j hj => by
            rcases Nat.lt_or_ge j i with h | h
            · exact hJ j h
            · obtain rfl : j = i := by omega
              exact hok⟩
          have hfr := freshR_next (All := s.All) (r := r) hx
          have hfl : freshR s.All r (L.take i) ≤ i := by
            unfold freshR
            have := List.countP_le_length (p := fun x : Vw => decide ((lastF s.All r x.nm).ver = 0)) (l := L.take i)
            rw [List.length_take] at this
            omega
          by_cases hm : (lastF s.All r x.nm).ver = 0
          · rw [if_pos hm] at hfr
            have ef : IntKind.i64.wrap ((freshR s.All r (L.take i) : Int) + 1) = ((freshR s.All r (L.take (i + 1)) : Nat) : Int) := by rw [w64 (by omega) (by omega), hfr]; simp
            (repeat ((first | refine n_must rfl ?_ | refine n_chk (drawF_ok (by decide +kernel)) ?_ | refine n_same rfl ?_ | ((first | refine n_must ?_ ?_ | refine n_brT ?_ ?_); (focus (first | (simp [hm]; done) | (simp [hm]; omega) | (simp only [hm]; simp; done)))) | (refine n_brF ?_ ?_; (focus (first | (simp [hm]; done) | (simp [hm]; omega) | (simp only [hm]; simp; done)))) | refine n_must (by (with_reducible refine and_shape ?_) <;> kernel_rfl) ?_); (refine gs ?_)))
            exact n_again ⟨i + 1, hJ', by omega, (by (repeat (first | exact trivial | refine ⟨⟨rfl, rfl⟩, ?_⟩ | refine ⟨⟨rfl, congrArg (SV.int .i64) ei⟩, ?_⟩ | refine ⟨⟨rfl, congrArg (SV.int .i64) ef⟩, ?_⟩))), ⟨_, rfl⟩⟩
          · rw [if_neg hm] at hfr
            (repeat ((first | refine n_must rfl ?_ | refine n_chk (drawF_ok (by decide +kernel)) ?_ | refine n_same rfl ?_ | ((first | refine n_must ?_ ?_ | refine n_brT ?_ ?_); (focus (first | (simp [hm]; done) | (simp [hm]; omega) | (simp only [hm]; simp; done)))) | (refine n_brF ?_ ?_; (focus (first | (simp [hm]; done) | (simp [hm]; omega) | (simp only [hm]; simp; done)))) | refine n_must (by (with_reducible refine and_shape ?_) <;> kernel_rfl) ?_); (refine gs ?_)))
            exact n_again ⟨i + 1, hJ', by omega, (by (repeat (first | exact trivial | refine ⟨⟨rfl, rfl⟩, ?_⟩ | refine ⟨⟨rfl, congrArg (SV.int .i64) ei⟩, ?_⟩ | refine ⟨⟨rfl, congrArg (fun n : Nat => SV.int .i64 (n : Int)) hfr.symm⟩, ?_⟩))), ⟨_, rfl⟩⟩
        | false =>
          have hok : okAt L i = false := by simp only [okAt, hd, hd1, hr1, hlts, Bool.true_and, Bool.or_false]; simp [hi0]
          refine n_brT (by rw [leS_eq, hlts]; rfl) ?_
          (refine gs ?_)
          refine gw ?_
          refine n_leave ?_
          have e : s.take r L = (s, 0, 1) := by rw [Rv.take, if_neg hno, if_neg h4, if_pos (goodL_false hlt hok)]
          rw [e]
          exact n_ret0 rfl rfl fun ids' w' hp hI' => ⟨(o, cap), rfl, trivial, post_shut hI' rfl [0, 1] (.blk rfl (pre_at hp rfl) rfl rfl (.res rfl .nil)) (by simp)⟩
    · have hr0 : rightB x = false := by simpa using hr1
      have hok : okAt L i = false := by simp only [okAt, hd, hr0, Bool.false_and]
      (repeat ((first | refine n_must rfl ?_ | refine n_chk (drawF_ok (by decide +kernel)) ?_ | refine n_same rfl ?_ | ((first | refine n_must ?_ ?_ | refine n_brT ?_ ?_); (focus (first | (simp [hr0]; done) | (simp [hr0]; omega) | (simp only [hr0]; simp; done)))) | (refine n_brF ?_ ?_; (focus (first | (simp [hr0]; done) | (simp [hr0]; omega) | (simp only [hr0]; simp; done)))) | refine n_must (by (with_reducible refine and_shape ?_) <;> kernel_rfl) ?_); (refine gs ?_)))
      refine n_leave ?_
      have e : s.take r L = (s, 0, 1) := by rw [Rv.take, if_neg hno, if_neg h4, if_pos (goodL_false hlt hok)]
      rw [e]
      exact n_ret0 rfl rfl fun ids' w' hp hI' => ⟨(o, cap), rfl, trivial, post_shut hI' rfl [0, 1] (.blk rfl (pre_at hp rfl) rfl rfl (.res rfl .nil)) (by simp)⟩
  · obtain rfl : i = L.length := by omega
    have hg := goodL_true hJ
    refine gw ?_
    refine n_exit rfl ?_
    (refine gs ?_)
    refine gw ?_
    rw [List.take_length]
    have hfl : freshR s.All r L ≤ L.length := List.countP_le_length
    have hnl := namesF_len s.All r
    generalize hF : freshR s.All r L = F at hfl
    refine n_callN (fun y : Option Addr × Nat => rowRes 9 1 y.1 (namesF s.All r).length y.2 (strs (namesF s.All r))) 9 (fun y => .raw (.slice y.1 (namesF s.All r).length y.2)) (fun y => .slice y.1 (namesF s.All r).length y.2) (fun _ => True) rfl rfl rfl (fun _ => rfl) (fun w1 hI1 => names_ok (rv_at hI1 0 rfl rfl rfl) (by omega) r) ?_
    rintro ⟨on, cn⟩ _ hnn
    have ec : IntKind.i64.wrap (((namesF s.All r).length : Int) + (F : Int)) = (namesF s.All r).length + F := w64 (by omega) (by omega)
    (refine gs ?_)
    by_cases h5 : 64 < (namesF s.All r).length + F
    · (repeat ((first | refine n_must rfl ?_ | refine n_chk (drawF_ok (by decide +kernel)) ?_ | refine n_same rfl ?_ | ((first | refine n_must ?_ ?_ | refine n_brT ?_ ?_); (focus (first | (simp [ec, h5]; done) | (simp [ec, h5]; omega) | (simp only [ec, h5]; simp; done)))) | (refine n_brF ?_ ?_; (focus (first | (simp [ec, h5]; done) | (simp [ec, h5]; omega) | (simp only [ec, h5]; simp; done)))) | refine n_must (by (with_reducible refine and_shape ?_) <;> kernel_rfl) ?_); (refine gs ?_)))
      have e : s.take r L = (s, 0, 102) := by rw [Rv.take, if_neg hno, if_neg h4, if_neg (by simp [hg]), if_pos (by rw [hF]; exact h5)]
      rw [e]
      exact n_ret0 rfl rfl fun ids' w' hp hI' => ⟨(o, cap), rfl, trivial, post_shut hI' rfl [0, 1] (.blk rfl (pre_at hp rfl) rfl rfl (.res rfl .nil)) (by simp)⟩
    · (repeat ((first | refine n_must rfl ?_ | refine n_chk (drawF_ok (by decide +kernel)) ?_ | refine n_same rfl ?_ | ((first | refine n_must ?_ ?_ | refine n_brT ?_ ?_); (focus (first | (simp [ec, h5]; done) | (simp [ec, h5]; omega) | (simp only [ec, h5]; simp; done)))) | (refine n_brF ?_ ?_; (focus (first | (simp [ec, h5]; done) | (simp [ec, h5]; omega) | (simp only [ec, h5]; simp; done)))) | refine n_must (by (with_reducible refine and_shape ?_) <;> kernel_rfl) ?_); (refine gs ?_)))
      have hinv := takesR_len s.All r L
      refine n_loop (σ := Nat × Option Addr × Nat) (fun t => [(0, .ptr 0 0), (1, .int .i64 r), (2, .raw (.slice o2 L.length cap2)), (11, .int .i64 ((takesR s.All r (L.take t.1)).2 : Nat)), (12, .int .i64 (t.1 : Nat))]) (fun t => rvMem t.2.1 t.2.2 { s with All := (takesR s.All r (L.take t.1)).1 } ++ [⟨104, [.res (readRes o2 (L.flatMap Vw.l))], false⟩, ⟨9, [.res (rowRes 9 1 on (namesF s.All r).length cn (strs (namesF s.All r)))], true⟩]) (fun t => t.1 ≤ L.length) (fun t => L.length - t.1) (0, o, cap) mixed (by simp) (fun _ _ => rfl) rfl (by (repeat (first | exact trivial | refine ⟨⟨rfl, rfl⟩, ?_⟩))) (fun s _ => ⟨by (repeat (first | exact trivial | refine ⟨⟨_, rfl⟩, ?_⟩)), by (repeat (first | exact trivial | refine ⟨⟨_, rfl⟩, ?_⟩))⟩) fun t hi2 => ?_
      obtain ⟨i, oi, ci⟩ := t
      dsimp only at hi2 ⊢
      (refine gs ?_)
      by_cases hlt : i < L.length
      · have ei : IntKind.i64.wrap ((i : Int) + 1) = ((i + 1 : Nat) : Int) := by rw [w64 (by omega) (by omega)]; simp
        obtain ⟨a, rfl⟩ := read_some hL (by omega)
        have hx : L[i]? = some L[i] := List.getElem?_eq_getElem _
        obtain ⟨v1, v2⟩ := hinv i hi2
        have hnx := takesR_next (All := s.All) (r := r) hx
        generalize L[i] = x at hx hnx
        generalize takesR s.All r (L.take i) = T at v1 v2 hnx
        obtain ⟨A1, k1⟩ := T
        dsimp only at v1 v2
        refine gw ?_
        refine n_ldDI (.int .i64 x.ver) rfl rfl (fun _ w1 _ hI1 => load_cell aggInt (read_cell (hI1.res 2 rfl rfl) hx (j := 3) rfl (by simp [add_add]))) ?_
        (refine gs ?_)
        refine gw ?_
        refine n_ldDI (.str x.nm) rfl rfl (fun _ w1 _ hI1 => load_cell aggStr (read_cell (hI1.res 2 rfl rfl) hx (j := 0) rfl (by simp [add_add]))) ?_
        (refine gs ?_)
        refine gw ?_
        refine n_sameP (.agg (lastF A1 r x.nm).sv) rfl rfl rfl (fun _ w1 hp1 hI1 => last_ok (s := { s with All := A1 }) (rv_at hI1 0 rfl rfl (pre_at hp1 rfl)) (by dsimp only; omega) r x.nm) ?_; (refine gs ?_)
        refine gw ?_
        refine n_ldRI (.int .i64 x.ver) rfl (fun _ w1 _ hI1 => load_cell aggInt (read_cell (hI1.res 2 rfl rfl) hx (j := 3) rfl (by simp [add_add]))) ?_
        (refine gs ?_)
        refine gw ?_
        by_cases hv : (lastF A1 r x.nm).ver < x.ver
        · have e1 : take1R r (A1, k1) x = (A1 ++ [(r, x)], k1 + 1) := by rw [take1R, if_pos hv]
          have ek : IntKind.i64.wrap ((k1 : Int) + 1) = ((k1 + 1 : Nat) : Int) := by rw [w64 (by omega) (by omega)]; simp
          rw [e1] at hnx
          (repeat ((first | refine n_must rfl ?_ | refine n_chk (drawF_ok (by decide +kernel)) ?_ | refine n_same rfl ?_ | ((first | refine n_must ?_ ?_ | refine n_brT ?_ ?_); (focus (first | (simp [hv]; done) | (simp [hv]; omega) | (simp only [hv]; simp; done)))) | (refine n_brF ?_ ?_; (focus (first | (simp [hv]; done) | (simp [hv]; omega) | (simp only [hv]; simp; done)))) | refine n_must (by (with_reducible refine and_shape ?_) <;> kernel_rfl) ?_); (refine gs ?_)))
          refine n_ldDI (.agg x.sv) rfl rfl (fun _ w1 _ hI1 => read_row (hI1.res 2 rfl rfl) hx (by simp)) ?_
          (refine gs ?_)
          refine gw ?_
          refine n_build1 rfl rfl elemEnt rfl rfl rfl rfl rfl rfl rfl rfl rfl ?_
          (refine gs ?_)
          refine gw ?_
          refine n_append (nv := entL (r, x)) 1 rfl rfl elemEnt hit hparts.1 hparts.2.1 hparts.2.2 rfl (by omega) rfl rfl rfl rfl rfl rfl (by omega) (by simp [Value.oneCell']) (by dsimp only; omega) (by dsimp only; omega) (show A1.flatMap entL ++ entL (r, x) = (A1 ++ [(r, x)]).flatMap entL by simp) fun g' ca' => ?_
          rw [show A1.length + 1 = (A1 ++ [(r, x)]).length by simp]
          (refine gs ?_)
          refine gw ?_
          refine n_again ⟨(i + 1, some ⟨g', 0, none⟩, ca'), by dsimp only; omega, by dsimp only; omega, ?_, ?_⟩
          · dsimp only; rw [hnx]; exact (by (repeat (first | exact trivial | refine ⟨⟨rfl, rfl⟩, ?_⟩ | refine ⟨⟨rfl, congrArg (SV.int .i64) ei⟩, ?_⟩ | refine ⟨⟨rfl, congrArg (SV.int .i64) ek⟩, ?_⟩)))
          · dsimp only; rw [hnx]; exact ⟨_, rfl⟩
        · have e1 : take1R r (A1, k1) x = (A1, k1) := by rw [take1R, if_neg hv]
          rw [e1] at hnx
          (repeat ((first | refine n_must rfl ?_ | refine n_chk (drawF_ok (by decide +kernel)) ?_ | refine n_same rfl ?_ | ((first | refine n_must ?_ ?_ | refine n_brT ?_ ?_); (focus (first | (simp [hv]; done) | (simp [hv]; omega) | (simp only [hv]; simp; done)))) | (refine n_brF ?_ ?_; (focus (first | (simp [hv]; done) | (simp [hv]; omega) | (simp only [hv]; simp; done)))) | refine n_must (by (with_reducible refine and_shape ?_) <;> kernel_rfl) ?_); (refine gs ?_)))
          refine n_again ⟨(i + 1, oi, ci), by dsimp only; omega, by dsimp only; omega, ?_, ?_⟩
          · dsimp only; rw [hnx]; exact (by (repeat (first | exact trivial | refine ⟨⟨rfl, rfl⟩, ?_⟩ | refine ⟨⟨rfl, congrArg (SV.int .i64) ei⟩, ?_⟩)))
          · dsimp only; rw [hnx]; exact ⟨_, rfl⟩
      · obtain rfl : i = L.length := by omega
        rw [List.take_length]
        refine gw ?_
        refine n_exit rfl ?_
        (refine gs ?_)
        refine gw ?_
        have e : s.take r L = ({ s with All := (takesR s.All r L).1 }, ((takesR s.All r L).2 : Int), 0) := by rw [Rv.take, if_neg hno, if_neg h4, if_neg (by simp [hg]), if_neg (by rw [hF]; exact h5)]
        rw [e]
        exact n_ret0 rfl rfl fun ids' w' hp hI' => ⟨(oi, ci), rfl, trivial, post_shut hI' rfl [0, 1] (.blk rfl (pre_at hp rfl) rfl rfl (.res rfl .nil)) (by simp)⟩
end
section
set_option maxRecDepth 100000
set_option linter.unusedSimpArgs false
set_option linter.unusedVariables false
set_option maxHeartbeats 4000000
open Go.RowKit

def rAboutD (All : List (Int × Vw)) (nm : ByteArray) : Nat → Int
  | 0 => 0
  | n + 1 => rAboutD All nm n + (lastF All (n : Int) nm).d
def rAboutB (All : List (Int × Vw)) (nm : ByteArray) : Nat → Bool
  | 0 => false
  | n + 1 => rAboutB All nm n || decide (0 < (lastF All (n : Int) nm).ver)

theorem rAbout_ok {p : Nat} {o : Option Addr} {cap n : Nat} {s : Rv} {w : World} (hR : (rvRes p o cap s).R w) (hl : s.All.length ≤ 100000) (hn : s.n = (n : Int)) (hn2 : n ≤ 1000) (nm : ByteArray) :
    Calls Tryz.prog 52 #[pV p, .string nm] w fun e w' => e = .returned (.tuple #[.int .i64 (wr (rAboutD s.All nm n)), .bool (rAboutB s.All nm n)]) ∧ Frm [] w w' := by
  have hI : Inv (cx 35 [] [] w) w [p, 0] (ro (rvMem o cap s)) := memRes_read hR
  refine calls_sm (cx 35 [] [] w) (vals := [.ptr 0 0, .str nm]) mixed Tryz.func52 rfl rfl rfl hI rfl (st rfl ?_); conv => arg 3; whnf
  refine gg ?_
  refine n_loop (σ := Nat × SV) (fun t => [(0, .ptr 0 0), (1, .str nm), (6, .int .i64 (wr (rAboutD s.All nm t.1))), (7, t.2), (8, .int .i64 (t.1 : Nat))]) (fun _ => ro (rvMem o cap s)) (fun t => t.1 ≤ n ∧ (t.2 = .lit (rAboutB s.All nm t.1) ∨ t.2 = .bool (rAboutB s.All nm t.1))) (fun t => n - t.1) (0, .lit false) mixed (by simp [rAboutB]) (fun _ _ => rfl) rfl (by (repeat (first | exact trivial | refine ⟨⟨rfl, rfl⟩, ?_⟩))) (fun t ht => ⟨by obtain ⟨k, sv⟩ := t; obtain ⟨_, h | h⟩ := ht <;> dsimp only at h <;> subst h <;> (repeat (first | exact trivial | refine ⟨⟨_, rfl⟩, ?_⟩)), by (repeat (first | exact trivial | refine ⟨⟨_, rfl⟩, ?_⟩))⟩) fun t hJ => ?_
  obtain ⟨k, sv⟩ := t
  obtain ⟨hk, hsv⟩ := hJ
  dsimp only at hk hsv ⊢
  by_cases hlt : k < n
  · have ei : IntKind.i64.wrap ((k : Int) + 1) = ((k + 1 : Nat) : Int) := by rw [w64 (by omega) (by omega)]; simp
    have hks : (k : Int) < s.n := by omega
    have eD : IntKind.i64.wrap (wr (rAboutD s.All nm k) + (lastF s.All (k : Int) nm).d) = wr (rAboutD s.All nm (k + 1)) := wr_add _ _
    have eB : rAboutB s.All nm (k + 1) = (rAboutB s.All nm k || decide (0 < (lastF s.All (k : Int) nm).ver)) := rfl
    rcases hsv with rfl | rfl
    · cases hb : rAboutB s.All nm k with
      | true =>
        (refine gs ?_)
        (repeat ((first | refine n_must rfl ?_ | refine n_chk (drawF_ok (by decide +kernel)) ?_ | refine n_same rfl ?_ | ((first | refine n_must ?_ ?_ | refine n_brT ?_ ?_); (focus (first | (simp [hks]; done) | (simp [hks]; omega) | (simp only [hks]; simp; done)))) | (refine n_brF ?_ ?_; (focus (first | (simp [hks]; done) | (simp [hks]; omega) | (simp only [hks]; simp; done)))) | refine n_must (by (with_reducible refine and_shape ?_) <;> kernel_rfl) ?_); (refine gs ?_)))
        refine n_sameP (.agg (lastF s.All (k : Int) nm).sv) rfl rfl rfl (fun _ w1 hp1 hI1 => last_ok (rv_at hI1 0 rfl rfl (pre_at hp1 rfl)) (by omega) (k : Int) nm) ?_; (refine gs ?_)
        refine gg ?_
        exact n_again ⟨(k + 1, .lit true), ⟨by dsimp only; omega, by dsimp only; rw [eB, hb]; simp⟩, by dsimp only; omega, (by (repeat (first | exact trivial | refine ⟨⟨rfl, rfl⟩, ?_⟩ | refine ⟨⟨rfl, congrArg (SV.int .i64) ei⟩, ?_⟩ | refine ⟨⟨rfl, congrArg (SV.int .i64) eD⟩, ?_⟩))), ⟨_, rfl⟩⟩
      | false =>
        (refine gs ?_)
        (repeat ((first | refine n_must rfl ?_ | refine n_chk (drawF_ok (by decide +kernel)) ?_ | refine n_same rfl ?_ | ((first | refine n_must ?_ ?_ | refine n_brT ?_ ?_); (focus (first | (simp [hks]; done) | (simp [hks]; omega) | (simp only [hks]; simp; done)))) | (refine n_brF ?_ ?_; (focus (first | (simp [hks]; done) | (simp [hks]; omega) | (simp only [hks]; simp; done)))) | refine n_must (by (with_reducible refine and_shape ?_) <;> kernel_rfl) ?_); (refine gs ?_)))
        refine n_sameP (.agg (lastF s.All (k : Int) nm).sv) rfl rfl rfl (fun _ w1 hp1 hI1 => last_ok (rv_at hI1 0 rfl rfl (pre_at hp1 rfl)) (by omega) (k : Int) nm) ?_; (refine gs ?_)
        refine gg ?_
        exact n_again ⟨(k + 1, .bool (decide (0 < (lastF s.All (k : Int) nm).ver))), ⟨by dsimp only; omega, by dsimp only; rw [eB, hb]; simp⟩, by dsimp only; omega, (by (repeat (first | exact trivial | refine ⟨⟨rfl, rfl⟩, ?_⟩ | refine ⟨⟨rfl, congrArg (SV.int .i64) ei⟩, ?_⟩ | refine ⟨⟨rfl, congrArg (SV.int .i64) eD⟩, ?_⟩))), ⟨_, rfl⟩⟩
    · cases hb : rAboutB s.All nm k with
      | true =>
        (refine gs ?_)
        (repeat ((first | refine n_must rfl ?_ | refine n_chk (drawF_ok (by decide +kernel)) ?_ | refine n_same rfl ?_ | ((first | refine n_must ?_ ?_ | refine n_brT ?_ ?_); (focus (first | (simp [hks]; done) | (simp [hks]; omega) | (simp only [hks]; simp; done)))) | (refine n_brF ?_ ?_; (focus (first | (simp [hks]; done) | (simp [hks]; omega) | (simp only [hks]; simp; done)))) | refine n_must (by (with_reducible refine and_shape ?_) <;> kernel_rfl) ?_); (refine gs ?_)))
        refine n_sameP (.agg (lastF s.All (k : Int) nm).sv) rfl rfl rfl (fun _ w1 hp1 hI1 => last_ok (rv_at hI1 0 rfl rfl (pre_at hp1 rfl)) (by omega) (k : Int) nm) ?_; (refine gs ?_)
        refine gg ?_
        refine gw ?_
        exact n_again ⟨(k + 1, .lit true), ⟨by dsimp only; omega, by dsimp only; rw [eB, hb]; simp⟩, by dsimp only; omega, (by (repeat (first | exact trivial | refine ⟨⟨rfl, rfl⟩, ?_⟩ | refine ⟨⟨rfl, congrArg (SV.int .i64) ei⟩, ?_⟩ | refine ⟨⟨rfl, congrArg (SV.int .i64) eD⟩, ?_⟩))), ⟨_, rfl⟩⟩
      | false =>
        (refine gs ?_)
        (repeat ((first | refine n_must rfl ?_ | refine n_chk (drawF_ok (by decide +kernel)) ?_ | refine n_same rfl ?_ | ((first | refine n_must ?_ ?_ | refine n_brT ?_ ?_); (focus (first | (simp [hks]; done) | (simp [hks]; omega) | (simp only [hks]; simp; done)))) | (refine n_brF ?_ ?_; (focus (first | (simp [hks]; done) | (simp [hks]; omega) | (simp only [hks]; simp; done)))) | refine n_must (by (with_reducible refine and_shape ?_) <;> kernel_rfl) ?_); (refine gs ?_)))
        refine n_sameP (.agg (lastF s.All (k : Int) nm).sv) rfl rfl rfl (fun _ w1 hp1 hI1 => last_ok (rv_at hI1 0 rfl rfl (pre_at hp1 rfl)) (by omega) (k : Int) nm) ?_; (refine gs ?_)
        refine gg ?_
        refine gw ?_
        exact n_again ⟨(k + 1, .bool (decide (0 < (lastF s.All (k : Int) nm).ver))), ⟨by dsimp only; omega, by dsimp only; rw [eB, hb]; simp⟩, by dsimp only; omega, (by (repeat (first | exact trivial | refine ⟨⟨rfl, rfl⟩, ?_⟩ | refine ⟨⟨rfl, congrArg (SV.int .i64) ei⟩, ?_⟩ | refine ⟨⟨rfl, congrArg (SV.int .i64) eD⟩, ?_⟩))), ⟨_, rfl⟩⟩
  · obtain rfl : k = n := by omega
    have hks : ¬ (k : Int) < s.n := by omega
    rcases hsv with rfl | rfl
    · cases hb : rAboutB s.All nm k <;>
      · (refine gs ?_)
        (repeat ((first | refine n_must rfl ?_ | refine n_chk (drawF_ok (by decide +kernel)) ?_ | refine n_same rfl ?_ | ((first | refine n_must ?_ ?_ | refine n_brT ?_ ?_); (focus (first | (simp [hks]; done) | (simp [hks]; omega) | (simp only [hks]; simp; done)))) | (refine n_brF ?_ ?_; (focus (first | (simp [hks]; done) | (simp [hks]; omega) | (simp only [hks]; simp; done)))) | refine n_must (by (with_reducible refine and_shape ?_) <;> kernel_rfl) ?_); (refine gs ?_)))
        refine n_exit rfl ?_
        (refine gs ?_)
        refine gw ?_
        exact n_ret0 rfl rfl fun ids' w' hp hI' => ⟨rfl, hI'.frm⟩
    · (refine gs ?_)
      (repeat ((first | refine n_must rfl ?_ | refine n_chk (drawF_ok (by decide +kernel)) ?_ | refine n_same rfl ?_ | ((first | refine n_must ?_ ?_ | refine n_brT ?_ ?_); (focus (first | (simp [hks]; done) | (simp [hks]; omega) | (simp only [hks]; simp; done)))) | (refine n_brF ?_ ?_; (focus (first | (simp [hks]; done) | (simp [hks]; omega) | (simp only [hks]; simp; done)))) | refine n_must (by (with_reducible refine and_shape ?_) <;> kernel_rfl) ?_); (refine gs ?_)))
      refine n_exit rfl ?_
      (refine gs ?_)
      refine gw ?_
      exact n_ret0 rfl rfl fun ids' w' hp hI' => ⟨rfl, hI'.frm⟩

/-! ### Known -/
theorem elemRt : sliceElem Tryz.prog 90 = some 37 := by kernel_rfl
def rKnownF (All : List (Int × Vw)) (nm : ByteArray) (i : Nat) : Int × Int := ((lastF All (i : Int) nm).d, (lastF All (i : Int) nm).u)
def rKnownL (All : List (Int × Vw)) (nm : ByteArray) (n : Nat) : List (Int × Int) := (List.range n).map (rKnownF All nm)
theorem rKnownL_next (All : List (Int × Vw)) (nm : ByteArray) (n : Nat) : rKnownL All nm (n + 1) = rKnownL All nm n ++ [rKnownF All nm n] := by
  unfold rKnownL
  rw [List.range_succ, List.map_append]
  rfl
theorem rKnown_ok {p : Nat} {o : Option Addr} {cap n : Nat} {s : Rv} {w : World} (hR : (rvRes p o cap s).R w) (hl : s.All.length ≤ 100000) (hn : s.n = (n : Int)) (hn2 : n ≤ 1000) (nm : ByteArray) :
    Calls Tryz.prog 65 #[pV p, .string nm] w fun e w' => ∃ y : Option Addr × Nat, e = .returned (.slice y.1 n y.2) ∧ True ∧ FreshR w w' (rowRes 37 2 y.1 n y.2 ((rKnownL s.All nm n).flatMap rtL)) := by
  obtain ⟨it, hit, hparts⟩ := Option.map_eq_some_iff.1 rtInfo
  simp only [Prod.mk.injEq] at hparts
  have hI0 : Inv (cx 24 [] [] w) w [p, 0] (ro (rvMem o cap s)) := memRes_read hR
  have hI := hI0.consR (t := 37) (rw_ := true) (r := rowRes 37 2 none 0 0 []) (by simp [rowRes]) (rowRes_nil _ _ _) (by simp [rowRes]) (by simp [rowRes])
  refine calls_sm (cx 24 [] [] w) (vals := [.ptr 0 0, .str nm]) mixed Tryz.func65 rfl rfl rfl hI rfl (st rfl ?_); conv => arg 3; whnf
  refine gg ?_
  refine n_loop (σ := Nat × Option Addr × Nat) (fun t => [(0, .ptr 0 0), (1, .str nm), (5, .raw (.slice t.2.1 t.1 t.2.2)), (6, .int .i64 (t.1 : Nat))]) (fun t => ro (rvMem o cap s) ++ [⟨37, [.res (rowRes 37 2 t.2.1 t.1 t.2.2 ((rKnownL s.All nm t.1).flatMap rtL))], true⟩]) (fun t => t.1 ≤ n) (fun t => n - t.1) (0, none, 0) mixed (by simp) (fun _ _ => rfl) rfl (by (repeat (first | exact trivial | refine ⟨⟨rfl, rfl⟩, ?_⟩))) (fun s _ => ⟨by (repeat (first | exact trivial | refine ⟨⟨_, rfl⟩, ?_⟩)), by (repeat (first | exact trivial | refine ⟨⟨_, rfl⟩, ?_⟩))⟩) fun t hk => ?_
  obtain ⟨k, oa, ca⟩ := t
  dsimp only at hk ⊢
  (refine gs ?_)
  by_cases hlt : k < n
  · have ei : IntKind.i64.wrap ((k : Int) + 1) = ((k + 1 : Nat) : Int) := by rw [w64 (by omega) (by omega)]; simp
    have hks : (k : Int) < s.n := by omega
    (repeat ((first | refine n_must rfl ?_ | refine n_chk (drawF_ok (by decide +kernel)) ?_ | refine n_same rfl ?_ | ((first | refine n_must ?_ ?_ | refine n_brT ?_ ?_); (focus (first | (simp [hks]; done) | (simp [hks]; omega) | (simp only [hks]; simp; done)))) | (refine n_brF ?_ ?_; (focus (first | (simp [hks]; done) | (simp [hks]; omega) | (simp only [hks]; simp; done)))) | refine n_must (by (with_reducible refine and_shape ?_) <;> kernel_rfl) ?_); (refine gs ?_)))
    refine n_sameP (.agg (lastF s.All (k : Int) nm).sv) rfl rfl rfl (fun _ w1 hp1 hI1 => last_ok (rv_at hI1 0 rfl rfl (pre_at hp1 rfl)) (by omega) (k : Int) nm) ?_; (refine gs ?_)
    refine gw ?_
    refine n_build1 rfl rfl elemRt rfl rfl rfl rfl rfl rfl rfl rfl rfl ?_
    (refine gs ?_)
    refine gw ?_
    refine n_append (nv := rtL (rKnownF s.All nm k)) 2 rfl rfl elemRt hit hparts.1 hparts.2.1 hparts.2.2 rfl (by omega) rfl rfl rfl rfl rfl rfl (by omega) (by simp [Value.oneCell']) (by omega) (by omega) (show (rKnownL s.All nm k).flatMap rtL ++ rtL (rKnownF s.All nm k) = (rKnownL s.All nm (k + 1)).flatMap rtL by rw [rKnownL_next]; simp) fun g' ca' => ?_
    (refine gs ?_)
    refine gw ?_
    exact n_again ⟨(k + 1, some ⟨g', 0, none⟩, ca'), by dsimp only; omega, by dsimp only; omega, (by (repeat (first | exact trivial | refine ⟨⟨rfl, rfl⟩, ?_⟩ | refine ⟨⟨rfl, congrArg (SV.int .i64) ei⟩, ?_⟩))), ⟨_, rfl⟩⟩
  · obtain rfl : k = n := by omega
    have hks : ¬ (k : Int) < s.n := by omega
    (repeat ((first | refine n_must rfl ?_ | refine n_chk (drawF_ok (by decide +kernel)) ?_ | refine n_same rfl ?_ | ((first | refine n_must ?_ ?_ | refine n_brT ?_ ?_); (focus (first | (simp [hks]; done) | (simp [hks]; omega) | (simp only [hks]; simp; done)))) | (refine n_brF ?_ ?_; (focus (first | (simp [hks]; done) | (simp [hks]; omega) | (simp only [hks]; simp; done)))) | refine n_must (by (with_reducible refine and_shape ?_) <;> kernel_rfl) ?_); (refine gs ?_)))
    refine n_exit rfl ?_
    (refine gs ?_)
    refine gw ?_
    exact n_ret0 rfl rfl fun ids' w' hp hI' => ⟨⟨oa, ca⟩, rfl, trivial, hI'.frm, hI'.res 2 rfl rfl, hI'.res_new 2 rfl rfl rfl (by simp), hI'.resLt 2 rfl rfl⟩
end
end Go.Proofs.YtglafgpjgkphkaaGreatDoor
