/- Chapter 5's law: came. -/
import Derived.Test.YtjmaddmklogchaaWkU
import Derived.Test.YtjmaddmklogchaaWhQ
set_option maxRecDepth 100000
set_option linter.unusedSimpArgs false
set_option linter.unusedVariables false
set_option maxHeartbeats 8000000
namespace Go.Proofs.Ytjmaddmklogchaa
open Go.RowKit

def dCells (m : Nat) (D : Nat → Int) : List Value := ((List.range (m + 1)).map D).map intV
theorem dCells_at {m j : Nat} {D : Nat → Int} (h : j ≤ m) : (dCells m D)[j]? = some (intV (D j)) := by
  unfold dCells
  rw [List.getElem?_map, List.getElem?_map, List.getElem?_range (by omega)]; rfl
theorem dCells_set {m j : Nat} {D : Nat → Int} {v : Int} (h : j ≤ m) : (dCells m D).take j ++ [intV v] ++ (dCells m D).drop (j + 1) = dCells m (updD D j v) := by
  unfold dCells
  rw [map_set (f := intV) (x := v) (by simp; omega)]
  congr 1
  apply List.ext_getElem?
  intro k
  rw [List.getElem?_set]
  by_cases e : j = k
  · subst e
    have : j < m + 1 := by omega
    simp [this, updD]
  · rw [if_neg e]
    by_cases hk : k < m + 1
    · simp [hk, updD]
      intro e'; exact absurd e'.symm e
    · simp [hk]
theorem dCells_congr {m : Nat} {D E : Nat → Int} (h : ∀ j, D j = E j) : dCells m D = dCells m E := by rw [show D = E from funext h]
abbrev dRow (b m : Nat) (D : Nat → Int) : Res := cellsRes b (dCells m D) 3
theorem d_load {b m j : Nat} {D : Nat → Int} {w : World} (h : (dRow b m D).R w) (hj : j ≤ m) {a : Addr} (ha : a = (⟨b, 0, none⟩ : Addr).add j) : (loadVar 3 a).run Try.prog w = .ok (intV (D j)) w :=
  load_cell aggInt (cellsRes_at h (dCells_at hj) ha)
abbrev cmM (p b m : Nat) (W : Wh) (D : Nat → Int) : Mem := [⟨58, [.res (whRes p W)], true⟩, ⟨3, [.res (dRow b m D)], true⟩]
abbrev cmRes (p b m : Nat) (W : Wh) (D : Nat → Int) : Res := memRes [0, 0] (cmM p b m W D)
def tickI (D : Nat → Int) (x : Int) (i : Nat) : Nat → Int := fun j => if j ≤ i ∧ D j = x then 0 else D j
theorem came_ok {p b m n N : Nat} {W : Wh} {D : Nat → Int} {w : World} (hW : W.ok N) (hN : N ≤ 100000) (hA : W.s.A = absF D n) (hn : n ≤ m) (hm : m ≤ 60) (hD0 : D 0 = 0) (hDn : ∀ j, n < j → D j = 0) (hR : (cmRes p b m W D).R w) :
    Calls Try.prog 19 #[pV p, .slice (some ⟨b, 0, none⟩) (m + 1) (m + 1), .int .i64 (n : Int)] w fun e w' => ∃ W' : Wh, e = .returned (.bool true) ∧ (W'.ok (N + 1) ∧ W'.s = W.s.tick ∧ W'.n = W.n) ∧ Post (cmRes p b m W D) (cmRes p b m W' (tickD D (W.s.now + 1))) w w' := by
  have hI : Inv (cx 53 [] (cmRes p b m W D).fp w) w [0, 0] (cmM p b m W D) := memRes_open hR fun x hx => hx
  have hnow := hW.s.now
  generalize hxx : W.s.now + 1 = x
  have hx0 : x ≠ 0 := by omega
  have hdue : W.s.due = dueF D x n := by
    show W.s.A.filter (fun t => decide (t.due = W.s.now + 1)) = _
    rw [hA, hxx]; exact abs_due hx0
  refine calls_sm (cx 53 [] (cmRes p b m W D).fp w) (vals := [.raw (pV p), .raw (.slice (some ⟨b, 0, none⟩) (m + 1) (m + 1)), .int .i64 (n : Int)]) mixed Try.func19 rfl rfl rfl hI rfl (st rfl ?_); conv => arg 3; whnf
  refine gw ?_
  refine n_callR (Y := Wh × Option Addr × Nat) 0 (fun y => (whRes p y.1).both (tRow y.2.1 (dueF D x n).length y.2.2 (tms (dueF D x n)))) (fun y => .raw (.slice y.2.1 (dueF D x n).length y.2.2)) (fun y => .slice y.2.1 (dueF D x n).length y.2.2) (fun y => (y.1.ok (N + 1) ∧ y.1.s = W.s.tick ∧ y.1.n = W.n) ∧ (0 < (dueF D x n).length → ∃ g, y.2.1 = some ⟨g, 0, none⟩)) rfl rfl (fun _ => rfl) rfl rfl rfl (fun _ w1 _ hI1 hR1 => (wTick_ok hW (by omega) hR1).mono fun e w' ⟨y, he, h1, hp⟩ => by
    rw [hdue] at he hp
    exact ⟨y, he, ⟨h1, fun h0 => rowRes_some' hp.2.1.2.1 h0⟩, hp⟩) ?_
  rintro ⟨W', o, c⟩ ⟨⟨o1, o2, o3⟩, o4⟩
  dsimp only at o1 o2 o3 o4 ⊢
  have hx' : W'.s.now = x := by rw [o2]; exact hxx
  (refine gs ?_)
  refine gw ?_
  refine n_callX [0] _ rfl (fun w1 hI1 => hI1.part2 0 rfl rfl 54) ?_
  refine n_sameP (.int .i64 x) rfl rfl rfl (fun _ w1 hp1 hI1 => hx' ▸ wNow_ok (hI1.res 0 rfl rfl)) ?_; (refine gs ?_)
  refine gw ?_
  have hlen := due_len D x
  have hln := hlen n
  refine n_loop (σ := Nat) (fun i => [(0, .raw (pV p)), (1, .raw (.slice (some ⟨b, 0, none⟩) (m + 1) (m + 1))), (2, .int .i64 (n : Int)), (7, .raw (.slice o (dueF D x n).length c)), (8, .int .i64 x), (9, .int .i64 ((dueF D x i).length : Nat)), (10, .int .i64 ((i + 1 : Nat) : Int))])
    (fun i => [⟨58, [.res (whRes p W')], true⟩, ⟨3, [.res (dRow b m (tickI D x i))], true⟩, ⟨54, [.res (tRow o (dueF D x n).length c (tms (dueF D x n)))], true⟩]) (fun i => i ≤ n) (fun i => n - i) 0 mixed (by omega) (fun _ _ => rfl) ?_ (by (repeat (first | exact trivial | refine ⟨⟨rfl, rfl⟩, ?_⟩))) (fun s _ => ⟨by (repeat (first | exact trivial | refine ⟨⟨_, rfl⟩, ?_⟩)), by (repeat (first | exact trivial | refine ⟨⟨_, rfl⟩, ?_⟩))⟩) fun i hi => ?_
  · have : tickI D x 0 = D := by
      funext j
      unfold tickI
      by_cases h : j ≤ 0 ∧ D j = x
      · obtain ⟨h1, h2⟩ := h
        obtain rfl : j = 0 := by omega
        exact absurd (h2.symm.trans hD0) hx0
      · rw [if_neg h]
    rw [this]
  have hli := hlen i
  have ei : IntKind.i64.wrap (((i + 1 : Nat) : Int) + 1) = ((i + 1 + 1 : Nat) : Int) := by rw [w64 (by omega) (by omega)]; simp
  (refine gs ?_)
  by_cases hin : i < n
  · have h1 : ((i + 1 : Nat) : Int) ≤ (n : Int) := by omega
    have hcur : tickI D x i (i + 1) = D (i + 1) := by unfold tickI; rw [if_neg (by omega)]
    (repeat ((first | refine n_must rfl ?_ | refine n_chk (drawF_ok (by decide +kernel)) ?_ | refine n_same rfl ?_ | ((first | refine n_must ?_ ?_ | refine n_brT ?_ ?_); (focus (first | (simp [h1]; done) | (simp [h1]; omega) | (simp only [h1]; simp; done)))) | (refine n_brF ?_ ?_; (focus (first | (simp [h1]; done) | (simp [h1]; omega) | (simp only [h1]; simp; done)))) | refine n_must (by (with_reducible refine and_shape ?_) <;> kernel_rfl) ?_); (refine gs ?_)))
    (refine n_ldA (.int .i64 (D (i + 1))) rfl (by first | exact trivial | rfl) rfl (fun _ w1 _ hI1 => by rw [← hcur]; exact d_load (hI1.res 1 rfl rfl) (by omega) (by simp)) ?_; (refine gs ?_))
    by_cases hd : D (i + 1) = x
    · obtain ⟨hat, hsu⟩ := due_at hin hd
      have hk : (dueF D x i).length < (dueF D x n).length := (List.getElem?_eq_some_iff.1 hat).1
      have hk' : ¬ ((dueF D x n).length : Int) ≤ ((dueF D x i).length : Int) := by omega
      obtain ⟨g, rfl⟩ := o4 (by omega)
      have e1 : IntKind.i64.wrap (99 + ((i + 1 : Nat) : Int)) = ((100 + i : Nat) : Int) := by rw [w64 (by omega) (by omega)]; simp; omega
      have e2 : IntKind.i64.wrap (((i + 1 : Nat) : Int) - 1) = (i : Int) := by rw [w64 (by omega) (by omega)]; simp
      (repeat ((first | refine n_must rfl ?_ | refine n_chk (drawF_ok (by decide +kernel)) ?_ | refine n_same rfl ?_ | ((first | refine n_must ?_ ?_ | refine n_brT ?_ ?_); (focus (first | (simp [hd, hk', hk, h1]; done) | (simp [hd, hk', hk, h1]; omega) | (simp only [hd, hk', hk, h1]; simp; done)))) | (refine n_brF ?_ ?_; (focus (first | (simp [hd, hk', hk, h1]; done) | (simp [hd, hk', hk, h1]; omega) | (simp only [hd, hk', hk, h1]; simp; done)))) | refine n_must (by (with_reducible refine and_shape ?_) <;> kernel_rfl) ?_); (refine gs ?_)))
      (refine n_ldA (.agg (tmO x i).sv) rfl (by first | exact trivial | rfl) rfl (fun _ w1 _ hI1 => tm_load (L := dueF D x n) (i := (dueF D x i).length) (rd_of_row (hI1.res 2 rfl rfl)) hat rfl) ?_; (refine gs ?_))
      (repeat ((first | refine n_must rfl ?_ | refine n_chk (drawF_ok (by decide +kernel)) ?_ | refine n_same rfl ?_ | ((first | refine n_must ?_ ?_ | refine n_brT ?_ ?_); (focus (first | (simp [e1, e2]; done) | (simp [e1, e2]; omega) | (simp only [e1, e2]; simp; done)))) | (refine n_brF ?_ ?_; (focus (first | (simp [e1, e2]; done) | (simp [e1, e2]; omega) | (simp only [e1, e2]; simp; done)))) | refine n_must (by (with_reducible refine and_shape ?_) <;> kernel_rfl) ?_); (refine gs ?_)))
      refine n_storeA (n := b) (off := i + 1) (k := 1) (l := dCells m (tickI D x i)) (rv := .int .i64 0) (v := .int .i64 0) 1 (dRow b m (tickI D x (i + 1))) (dCells m (tickI D x (i + 1))) rfl rfl rfl (by rw [add_mk]; simp) rfl rfl sizeInt rfl rfl rfl rfl rfl (by simp [cellsRes]) (fun w h => h) (by simp [dCells]; omega) (by
        rw [show (Value.int .i64 0).cells.toList = [intV 0] from rfl, dCells_set (by omega)]
        refine dCells_congr fun j => ?_
        unfold updD tickI
        by_cases e : j = i + 1
        · subst e; rw [if_pos rfl, if_pos ⟨by omega, hd⟩]
        · rw [if_neg e]
          by_cases h : j ≤ i ∧ D j = x
          · rw [if_pos h, if_pos ⟨by omega, h.2⟩]
          · rw [if_neg h, if_neg fun h' => h ⟨by omega, h'.2⟩]) (fun w w' h hf hb => hb) (by simp [cellsRes]) ?_
      (refine gs ?_)
      have ek : IntKind.i64.wrap (((dueF D x i).length : Nat) + 1) = (((dueF D x (i + 1)).length : Nat) : Int) := by rw [hsu, w64 (by omega) (by omega)]; simp
      refine gw ?_
      exact n_again ⟨i + 1, by omega, by omega, (by (repeat (first | exact trivial | refine ⟨⟨rfl, rfl⟩, ?_⟩ | refine ⟨⟨rfl, congrArg (SV.int .i64) ei⟩, ?_⟩ | refine ⟨⟨rfl, congrArg (SV.int .i64) ek⟩, ?_⟩))), ⟨_, rfl⟩⟩
    · have hsu := due_no hd
      (repeat ((first | refine n_must rfl ?_ | refine n_chk (drawF_ok (by decide +kernel)) ?_ | refine n_same rfl ?_ | ((first | refine n_must ?_ ?_ | refine n_brT ?_ ?_); (focus (first | (simp [hd]; done) | (simp [hd]; omega) | (simp only [hd]; simp; done)))) | (refine n_brF ?_ ?_; (focus (first | (simp [hd]; done) | (simp [hd]; omega) | (simp only [hd]; simp; done)))) | refine n_must (by (with_reducible refine and_shape ?_) <;> kernel_rfl) ?_); (refine gs ?_)))
      have hte : tickI D x (i + 1) = tickI D x i := by
        funext j
        unfold tickI
        by_cases h : j ≤ i ∧ D j = x
        · rw [if_pos h, if_pos ⟨by omega, h.2⟩]
        · rw [if_neg h, if_neg fun h' => h ⟨by
            by_cases e : j = i + 1
            · subst e; exact absurd h'.2 hd
            · omega, h'.2⟩]
      exact n_again ⟨i + 1, by omega, by omega, (by (repeat (first | exact trivial | refine ⟨⟨rfl, rfl⟩, ?_⟩ | refine ⟨⟨rfl, congrArg (SV.int .i64) ei⟩, ?_⟩ | refine ⟨⟨rfl, congrArg (fun k : Nat => SV.int .i64 (k : Int)) hsu.symm⟩, ?_⟩))), ⟨[], by rw [hte]; rfl⟩⟩
  · obtain rfl : i = n := by omega
    have h1 : ¬ ((i + 1 : Nat) : Int) ≤ (i : Int) := by omega
    (repeat ((first | refine n_must rfl ?_ | refine n_chk (drawF_ok (by decide +kernel)) ?_ | refine n_same rfl ?_ | ((first | refine n_must ?_ ?_ | refine n_brT ?_ ?_); (focus (first | (simp [h1]; done) | (simp [h1]; omega) | (simp only [h1]; simp; done)))) | (refine n_brF ?_ ?_; (focus (first | (simp [h1]; done) | (simp [h1]; omega) | (simp only [h1]; simp; done)))) | refine n_must (by (with_reducible refine and_shape ?_) <;> kernel_rfl) ?_); (refine gs ?_)))
    refine n_exit rfl ?_
    (refine gs ?_)
    refine gw ?_
    refine n_ret0 rfl rfl fun ids' w' hp hI' => ⟨W', ret_bool (by simp), ⟨o1, o2, o3⟩, ?_⟩
    have hT : tickI D x i = tickD D x := by
      funext j
      unfold tickI tickD
      by_cases h : D j = x
      · rw [if_pos h]
        by_cases hj : j ≤ i
        · rw [if_pos ⟨hj, h⟩]
        · exact absurd (h.symm.trans (hDn j (by omega))) hx0
      · rw [if_neg h, if_neg fun h' => h h'.2]
    rw [hT] at hI'
    exact post_shut (ids := [0, 0]) (mem := cmM p b m W' (tickD D x)) (ρ := cmRes p b m W D) hI' rfl [0, 1] (.res rfl (.res rfl .nil)) (by decide)
end Go.Proofs.Ytjmaddmklogchaa
