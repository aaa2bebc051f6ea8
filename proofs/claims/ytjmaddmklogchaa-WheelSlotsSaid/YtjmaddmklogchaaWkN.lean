/- Chapter 5's law: a keep, both ways; step. -/
import Derived.Test.YtjmaddmklogchaaWkJ
import Derived.Test.YtjmaddmklogchaaWkM
import Derived.Test.YtjmaddmklogchaaWkD
set_option maxRecDepth 100000
set_option linter.unusedSimpArgs false
set_option linter.unusedVariables false
set_option maxHeartbeats 8000000
namespace Go.Proofs.Ytjmaddmklogchaa
open Go.RowKit

inductive Ke where
  | k (K : Kp)
  | l (K : Kl)
def keRes (p : Nat) : Ke → Res
  | .k K => kpRes p K
  | .l K => klRes p K
def Ke.ok : Ke → Nat → Prop
  | .k K, n => K.ok ∧ K.Ls.length ≤ 41 * n
  | .l K, n => K.E.length ≤ n ∧ ∀ e ∈ K.E, e.xs.length ≤ 1000000
theorem Ke.ok.mono {K : Ke} {n m : Nat} (h : K.ok n) (hm : n ≤ m) : K.ok m := by
  cases K with
  | k K => exact ⟨h.1, by have := h.2; omega⟩
  | l K => exact ⟨by have := h.1; omega, h.2⟩
theorem keput_ok {p n : Nat} {K : Ke} {o : Option Addr} {cap : Nat} {xs : List Tm} {w : World} (hn : n ≤ 1000000) (hx : xs.length ≤ 1000000) (hK : K.ok n) (hR : ((keRes p K).both (tRow o xs.length cap (tms xs))).R w) :
    Calls Try.prog 34 #[pV p, .slice o xs.length cap] w fun e w' => ∃ K' : Ke, e = .returned (.tuple #[]) ∧ K'.ok (n + 1) ∧ Post ((keRes p K).both (tRow o xs.length cap (tms xs))) (keRes p K') w w' := by
  cases K with
  | k K =>
    obtain ⟨h1, h2⟩ := hK
    exact (kput_ok (tms_len xs) (by omega) h1 (by omega) hR).mono fun e w' ⟨K', he, ⟨h3, h4⟩, hp⟩ => ⟨.k K', he, ⟨h3, by omega⟩, hp⟩
  | l K =>
    obtain ⟨h1, h2⟩ := hK
    exact (lput_ok (by omega) (by omega) hR).mono fun e w' ⟨K', he, ⟨e', h3, h4⟩, hp⟩ => ⟨.l K', he, ⟨by rw [h4]; simp; omega, fun e hm => by
      rw [h4] at hm
      rcases List.mem_append.1 hm with hm | hm
      · exact h2 e hm
      · simp at hm; subst hm; rw [h3]; exact hx⟩, hp⟩
theorem kewhole_ok {p n : Nat} {K : Ke} {w : World} (hn : n ≤ 1000000) (hK : K.ok n) (hR : (keRes p K).R w) :
    Calls Try.prog 22 #[pV p] w fun e w' => e = .returned (.bool true) ∧ Frm (keRes p K).fp w w' := by
  cases K with
  | k K => exact (kwhole_ok hK.1 (by have := hK.2; omega) hR).mono fun e w' ⟨he, hf⟩ => ⟨he, hf.mono (by simp)⟩
  | l K => exact klwhole_ok (by have := hK.1; omega) (fun e he => by have := hK.2 e he; omega) hR
theorem keRes_lt {p : Nat} {K : Ke} {w : World} (h : (keRes p K).R w) : ∀ x ∈ (keRes p K).fp, x < w.heap.size := by
  cases K with
  | k K => exact memRes_lt h
  | l K => exact memRes_lt h

/-! ### step -/
structure Ac where
  k : Int
  a : Int
  b : Int
  c : Int
abbrev Ac.l (a : Ac) : List Value := [.int .i64 a.k, .int .i64 a.a, .int .i64 a.b, .int .i64 a.c]
abbrev Ac.sv (a : Ac) : List SV := [.int .i64 a.k, .int .i64 a.a, .int .i64 a.b, .int .i64 a.c]
abbrev Ac.val (a : Ac) : Value := .agg #[.int .i64 a.k, .int .i64 a.a, .int .i64 a.b, .int .i64 a.c]
theorem ac_len (a : Ac) : a.l.length = 4 := rfl
abbrev stM (p q b : Nat) (W : Wh) (R : Rf) (K : Ke) : Mem := [⟨58, [.res (whRes p W)], true⟩, ⟨66, [.res (rfRes q R)], true⟩, ⟨51, [.res (keRes b K)], true⟩]
abbrev stRes (z p q b : Nat) (W : Wh) (R : Rf) (K : Ke) : Res := memRes [0, 0, z] (stM p q b W R K)
structure Stp (N : Nat) (n : Nat) (W : Wh) (R : Rf) (K : Ke) : Prop where
  w : W.ok N
  e : R.s = W.s
  n : W.n = n
  k : K.ok N
theorem step_ok {z p q b N n : Nat} {W : Wh} {R : Rf} {K : Ke} {a : Ac} {w : World} (h : Stp N n W R K) (hN : N ≤ 100000) (ha : i64 a.a) (hR : (stRes z p q b W R K).R w) :
    Calls Try.prog 21 #[pV p, pV q, pV b, a.val] w fun e w' => ∃ y : Wh × Rf × Ke, e = .returned (.bool true) ∧ Stp (N + 1) n y.1 y.2.1 y.2.2 ∧ Post (stRes z p q b W R K) (stRes z p q b y.1 y.2.1 y.2.2) w w' := by
  obtain ⟨hW, hE, hn, hK⟩ := h
  have hRo : R.s.ok N := by rw [hE]; exact hW.s
  obtain ⟨oR, cR, sR⟩ := R
  dsimp only at hE hRo hR ⊢
  subst hE
  have hI : Inv (cx 78 [(3, .of [(0, []), (1, []), (2, []), (3, []), (4, []), (5, []), (6, []), (8, []), (9, []), (10, []), (11, []), (12, []), (13, []), (14, []), (7, [14, 12, 10]), (15, []), (16, []), (17, [])]), (5, .of [(0, []), (1, []), (2, []), (4, []), (5, []), (6, []), (3, [6]), (7, []), (8, []), (9, [])]), (17, .of [(0, []), (2, []), (3, []), (4, []), (5, []), (1, [5]), (6, []), (7, [])])] (stRes z p q b W ⟨oR, cR, W.s⟩ K).fp w) w [0, 0, z] (stM p q b W ⟨oR, cR, W.s⟩ K) := memRes_open hR fun x hx => hx
  refine calls_sm (cx 78 [(3, .of [(0, []), (1, []), (2, []), (3, []), (4, []), (5, []), (6, []), (8, []), (9, []), (10, []), (11, []), (12, []), (13, []), (14, []), (7, [14, 12, 10]), (15, []), (16, []), (17, [])]), (5, .of [(0, []), (1, []), (2, []), (4, []), (5, []), (6, []), (3, [6]), (7, []), (8, []), (9, [])]), (17, .of [(0, []), (2, []), (3, []), (4, []), (5, []), (1, [5]), (6, []), (7, [])])] (stRes z p q b W ⟨oR, cR, W.s⟩ K).fp w) (vals := [.raw (pV p), .raw (pV q), .raw (pV b), .agg a.sv]) mixed Try.func21 rfl rfl rfl hI rfl (st rfl ?_); conv => arg 3; whnf
  refine gw ?_
  by_cases h1 : a.k = 1
  · (repeat ((first | refine n_must rfl ?_ | refine n_chk (drawF_ok (by decide +kernel)) ?_ | refine n_same rfl ?_ | ((first | refine n_must ?_ ?_ | refine n_brT ?_ ?_); (focus (first | (simp [h1]; done) | (simp [h1]; omega) | (simp only [h1]; simp; done)))) | (refine n_brF ?_ ?_; (focus (first | (simp [h1]; done) | (simp [h1]; omega) | (simp only [h1]; simp; done)))) | refine n_must (by (with_reducible refine and_shape ?_) <;> kernel_rfl) ?_); (refine gs ?_)))
    refine n_callR (Y := Wh) 0 (fun W' => whRes p W') (fun _ => .int .i64 (W.s.last + 1)) (fun _ => .int .i64 (W.s.last + 1)) (fun W' => W'.ok (N + 1) ∧ W'.s = W.s.arm a.a a.b a.c ∧ W'.n = W.n) rfl rfl (fun _ => rfl) rfl rfl rfl (fun _ w1 _ hI1 hR1 => wArm_ok hW (by omega) hR1) ?_
    rintro W' ⟨o1, o2, o3⟩
    (refine gs ?_)
    refine gw ?_
    refine n_callR (Y := Rf) 1 (fun R' => rfRes q R') (fun _ => .int .i64 (W.s.last + 1)) (fun _ => .int .i64 (W.s.last + 1)) (fun R' => R'.s = W.s.arm a.a a.b a.c) rfl rfl (fun _ => rfl) rfl rfl rfl (fun _ w1 _ hI1 hR1 => rArm_ok hRo (by omega) hR1) ?_
    intro R' o4
    (refine gs ?_)
    refine gw ?_
    refine n_ret0 rfl rfl fun ids' w' hp hI' => ⟨(W', R', K), ret_bool (by simp), ⟨o1, by rw [o4, o2], by rw [o3, hn], hK.mono (by omega)⟩, ?_⟩
    exact post_shut (ids := [0, 0, z]) (mem := stM p q b W' R' K) (ρ := stRes z p q b W ⟨oR, cR, W.s⟩ K) hI' rfl [0, 1, 2] (.res rfl (.res rfl (.res rfl .nil))) (by decide)
  by_cases h2 : a.k = 2
  · (repeat ((first | refine n_must rfl ?_ | refine n_chk (drawF_ok (by decide +kernel)) ?_ | refine n_same rfl ?_ | ((first | refine n_must ?_ ?_ | refine n_brT ?_ ?_); (focus (first | (simp [h1, h2]; done) | (simp [h1, h2]; omega) | (simp only [h1, h2]; simp; done)))) | (refine n_brF ?_ ?_; (focus (first | (simp [h1, h2]; done) | (simp [h1, h2]; omega) | (simp only [h1, h2]; simp; done)))) | refine n_must (by (with_reducible refine and_shape ?_) <;> kernel_rfl) ?_); (refine gs ?_)))
    refine n_callR (Y := Wh) 0 (fun W' => whRes p W') (fun _ => .bool (W.s.has a.a)) (fun _ => .bool (W.s.has a.a)) (fun W' => W'.ok N ∧ W'.s = W.s.cancel a.a ∧ W'.n = W.n) rfl rfl (fun _ => rfl) rfl rfl rfl (fun _ w1 _ hI1 hR1 => wCancel_ok hW (by omega) ha hR1) ?_
    rintro W' ⟨o1, o2, o3⟩
    (refine gs ?_)
    refine gw ?_
    refine n_callR (Y := Rf) 1 (fun R' => rfRes q R') (fun _ => .bool (W.s.has a.a)) (fun _ => .bool (W.s.has a.a)) (fun R' => R'.s = W.s.cancel a.a) rfl rfl (fun _ => rfl) rfl rfl rfl (fun _ w1 _ hI1 hR1 => rCancel_ok hRo (by omega) hR1) ?_
    intro R' o4
    (refine gs ?_)
    refine gw ?_
    refine n_ret0 rfl rfl fun ids' w' hp hI' => ⟨(W', R', K), ret_bool (by simp), ⟨⟨o1.n, o1.s.mono (by omega), o1.nd, o1.pl⟩, by rw [o4, o2], by rw [o3, hn], hK.mono (by omega)⟩, ?_⟩
    exact post_shut (ids := [0, 0, z]) (mem := stM p q b W' R' K) (ρ := stRes z p q b W ⟨oR, cR, W.s⟩ K) hI' rfl [0, 1, 2] (.res rfl (.res rfl (.res rfl .nil))) (by decide)
  have hAl := hW.s.len
  have hdl : W.s.due.length ≤ N := Nat.le_trans (List.length_filter_le _ _) hAl
  have hll : (listT W.s.A).length ≤ N := by rw [(listT_ok hW.s.up).1.length_eq]; exact hAl
  by_cases h3 : a.k = 3
  · (repeat ((first | refine n_must rfl ?_ | refine n_chk (drawF_ok (by decide +kernel)) ?_ | refine n_same rfl ?_ | ((first | refine n_must ?_ ?_ | refine n_brT ?_ ?_); (focus (first | (simp [h1, h2, h3]; done) | (simp [h1, h2, h3]; omega) | (simp only [h1, h2, h3]; simp; done)))) | (refine n_brF ?_ ?_; (focus (first | (simp [h1, h2, h3]; done) | (simp [h1, h2, h3]; omega) | (simp only [h1, h2, h3]; simp; done)))) | refine n_must (by (with_reducible refine and_shape ?_) <;> kernel_rfl) ?_); (refine gs ?_)))
    refine n_call1 rfl fun b3 => ?_
    refine n_callR (Y := Wh × Option Addr × Nat) 0 (fun y => (whRes p y.1).both (tRow y.2.1 W.s.due.length y.2.2 (tms W.s.due))) (fun y => .raw (.slice y.2.1 W.s.due.length y.2.2)) (fun y => .slice y.2.1 W.s.due.length y.2.2) (fun y => y.1.ok (N + 1) ∧ y.1.s = W.s.tick ∧ y.1.n = W.n) rfl rfl (fun _ => rfl) rfl rfl rfl (fun _ w1 _ hI1 hR1 => wTick_ok hW (by omega) hR1) ?_
    rintro ⟨W', o, c⟩ ⟨o1, o2, o3⟩
    dsimp only at o1 o2 o3 ⊢
    (refine gs ?_)
    refine gw ?_
    refine n_callX [0] _ rfl (fun w1 hI1 => hI1.part2 0 rfl rfl 54) ?_
    refine n_callR (Y := Rf × Option Addr × Nat) 1 (fun y => (rfRes q y.1).both (tRow y.2.1 W.s.due.length y.2.2 (tms W.s.due))) (fun y => .raw (.slice y.2.1 W.s.due.length y.2.2)) (fun y => .slice y.2.1 W.s.due.length y.2.2) (fun y => y.1.s = W.s.tick) rfl rfl (fun _ => rfl) rfl rfl rfl (fun _ w1 _ hI1 hR1 => rTick_ok hRo (by omega) hR1) ?_
    rintro ⟨R', oo, cc⟩ o4
    dsimp only at o4 ⊢
    (refine gs ?_)
    refine gw ?_
    refine n_callX [0] _ rfl (fun w1 hI1 => hI1.part2 1 rfl rfl 54) ?_
    refine n_sameP (.bool true) rfl rfl rfl (fun _ w1 hp1 hI1 => same_ok c cc (rd_of_row (hI1.res 4 rfl rfl)) (rd_lt (rd_of_row (hI1.res 4 rfl rfl))) (rd_of_row (hI1.res 5 rfl rfl)) (rd_lt (rd_of_row (hI1.res 5 rfl rfl))) (by omega)) ?_; (refine gs ?_)
    refine gw ?_
    refine n_callX [] _ rfl (fun w1 hI1 => (by have h := hI1.absorb 2 4 (by decide) rfl rfl rfl rfl rfl rfl; rw [List.append_nil]; exact h)) ?_
    refine n_callR (Y := Ke) 2 (fun K' => keRes b K') (fun _ => .tup []) (fun _ => .tuple #[]) (fun K' => K'.ok (N + 1)) rfl rfl (fun _ => rfl) rfl rfl rfl (fun _ w1 _ hI1 hR1 => keput_ok (by omega) (by omega) hK hR1) ?_
    intro K' hK'
    (refine gs ?_)
    refine gw ?_
    refine n_ret0 rfl rfl fun ids' w' hp hI' => ⟨(W', R', K'), rfl, ⟨o1, by rw [o4, o2], by rw [o3, hn], hK'⟩, ?_⟩
    exact post_shut (ids := [0, 0, z]) (mem := stM p q b W' R' K') (ρ := stRes z p q b W ⟨oR, cR, W.s⟩ K) hI' rfl [0, 1, 2] (.res rfl (.res rfl (.res rfl .nil))) (by decide)
  by_cases h4 : a.k = 4
  · (repeat ((first | refine n_must rfl ?_ | refine n_chk (drawF_ok (by decide +kernel)) ?_ | refine n_same rfl ?_ | ((first | refine n_must ?_ ?_ | refine n_brT ?_ ?_); (focus (first | (simp [h1, h2, h3, h4]; done) | (simp [h1, h2, h3, h4]; omega) | (simp only [h1, h2, h3, h4]; simp; done)))) | (refine n_brF ?_ ?_; (focus (first | (simp [h1, h2, h3, h4]; done) | (simp [h1, h2, h3, h4]; omega) | (simp only [h1, h2, h3, h4]; simp; done)))) | refine n_must (by (with_reducible refine and_shape ?_) <;> kernel_rfl) ?_); (refine gs ?_)))
    refine n_call1 rfl fun b3 => ?_
    refine n_callN (fun y : Option Addr × Nat => tRow y.1 (listT W.s.A).length y.2 (tms (listT W.s.A))) 54 (fun y => .raw (.slice y.1 (listT W.s.A).length y.2)) (fun y => .slice y.1 (listT W.s.A).length y.2) (fun _ => True) rfl rfl rfl (fun _ => rfl) (fun w1 hI1 => wList_ok hW (by omega) (hI1.res 0 rfl rfl)) ?_
    rintro ⟨o, c⟩ _ _
    (refine gs ?_)
    refine gw ?_
    refine n_callN (fun y : Option Addr × Nat => tRow y.1 (listT W.s.A).length y.2 (tms (listT W.s.A))) 54 (fun y => .raw (.slice y.1 (listT W.s.A).length y.2)) (fun y => .slice y.1 (listT W.s.A).length y.2) (fun _ => True) rfl rfl rfl (fun _ => rfl) (fun w1 hI1 => rList_ok (R := ⟨oR, cR, W.s⟩) hRo (by omega) (hI1.res 1 rfl rfl)) ?_
    rintro ⟨oo, cc⟩ _ _
    (refine gs ?_)
    refine gw ?_
    refine n_sameP (.bool true) rfl rfl rfl (fun _ w1 hp1 hI1 => same_ok c cc (rd_of_row (hI1.res 4 rfl rfl)) (rd_lt (rd_of_row (hI1.res 4 rfl rfl))) (rd_of_row (hI1.res 5 rfl rfl)) (rd_lt (rd_of_row (hI1.res 5 rfl rfl))) (by omega)) ?_; (refine gs ?_)
    refine gw ?_
    refine n_callX [] _ rfl (fun w1 hI1 => (by have h := hI1.absorb 2 4 (by decide) rfl rfl rfl rfl rfl rfl; rw [List.append_nil]; exact h)) ?_
    refine n_callR (Y := Ke) 2 (fun K' => keRes b K') (fun _ => .tup []) (fun _ => .tuple #[]) (fun K' => K'.ok (N + 1)) rfl rfl (fun _ => rfl) rfl rfl rfl (fun _ w1 _ hI1 hR1 => keput_ok (by omega) (by omega) hK hR1) ?_
    intro K' hK'
    (refine gs ?_)
    refine gw ?_
    refine n_ret0 rfl rfl fun ids' w' hp hI' => ⟨(W, ⟨oR, cR, W.s⟩, K'), rfl, ⟨⟨hW.n, hW.s.mono (by omega), hW.nd, hW.pl⟩, rfl, hn, hK'⟩, ?_⟩
    exact post_shut (ids := [0, 0, z]) (mem := stM p q b W ⟨oR, cR, W.s⟩ K') (ρ := stRes z p q b W ⟨oR, cR, W.s⟩ K) hI' rfl [0, 1, 2] (.res rfl (.res rfl (.res rfl .nil))) (by decide)
  by_cases h5 : a.k = 5
  · (repeat ((first | refine n_must rfl ?_ | refine n_chk (drawF_ok (by decide +kernel)) ?_ | refine n_same rfl ?_ | ((first | refine n_must ?_ ?_ | refine n_brT ?_ ?_); (focus (first | (simp [h1, h2, h3, h4, h5]; done) | (simp [h1, h2, h3, h4, h5]; omega) | (simp only [h1, h2, h3, h4, h5]; simp; done)))) | (refine n_brF ?_ ?_; (focus (first | (simp [h1, h2, h3, h4, h5]; done) | (simp [h1, h2, h3, h4, h5]; omega) | (simp only [h1, h2, h3, h4, h5]; simp; done)))) | refine n_must (by (with_reducible refine and_shape ?_) <;> kernel_rfl) ?_); (refine gs ?_)))
    (refine n_ldA (.int .i64 W.s.now) rfl (by first | exact trivial | rfl) rfl (fun _ w1 _ hI1 => load_cell aggInt (blk_at (memRes_blk (hI1.res 1 rfl rfl) 0 rfl rfl rfl) (j := 0) rfl rfl)) ?_; (refine gs ?_))
    refine gw ?_
    refine n_sameP (.int .i64 W.s.now) rfl rfl rfl (fun _ w1 hp1 hI1 => wNow_ok (hI1.res 0 rfl rfl)) ?_; (refine gs ?_)
    refine gw ?_
    (refine n_ldA (.int .i64 W.s.now) rfl (by first | exact trivial | rfl) rfl (fun _ w1 _ hI1 => load_cell aggInt (blk_at (memRes_blk (hI1.res 1 rfl rfl) 0 rfl rfl rfl) (j := 0) rfl rfl)) ?_; (refine gs ?_))
    refine gw ?_
    refine n_ret0 rfl rfl fun ids' w' hp hI' => ⟨(W, ⟨oR, cR, W.s⟩, K), ret_bool (by simp), ⟨⟨hW.n, hW.s.mono (by omega), hW.nd, hW.pl⟩, rfl, hn, hK.mono (by omega)⟩, ?_⟩
    exact post_shut (ids := [0, 0, z]) (mem := stM p q b W ⟨oR, cR, W.s⟩ K) (ρ := stRes z p q b W ⟨oR, cR, W.s⟩ K) hI' rfl [0, 1, 2] (.res rfl (.res rfl (.res rfl .nil))) (by decide)
  (repeat ((first | refine n_must rfl ?_ | refine n_chk (drawF_ok (by decide +kernel)) ?_ | refine n_same rfl ?_ | ((first | refine n_must ?_ ?_ | refine n_brT ?_ ?_); (focus (first | (simp [h1, h2, h3, h4, h5]; done) | (simp [h1, h2, h3, h4, h5]; omega) | (simp only [h1, h2, h3, h4, h5]; simp; done)))) | (refine n_brF ?_ ?_; (focus (first | (simp [h1, h2, h3, h4, h5]; done) | (simp [h1, h2, h3, h4, h5]; omega) | (simp only [h1, h2, h3, h4, h5]; simp; done)))) | refine n_must (by (with_reducible refine and_shape ?_) <;> kernel_rfl) ?_); (refine gs ?_)))
  refine n_ret0 rfl rfl fun ids' w' hp hI' => ⟨(W, ⟨oR, cR, W.s⟩, K), rfl, ⟨⟨hW.n, hW.s.mono (by omega), hW.nd, hW.pl⟩, rfl, hn, hK.mono (by omega)⟩, ?_⟩
  exact post_shut (ids := [0, 0, z]) (mem := stM p q b W ⟨oR, cR, W.s⟩ K) (ρ := stRes z p q b W ⟨oR, cR, W.s⟩ K) hI' rfl [0, 1, 2] (.res rfl (.res rfl (.res rfl .nil))) (by decide)
end Go.Proofs.Ytjmaddmklogchaa
