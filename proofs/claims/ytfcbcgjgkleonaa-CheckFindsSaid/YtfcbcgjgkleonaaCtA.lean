/- Chapter 17's law: within, placeOf, story. -/
import Derived.Test.YtfcbcgjgkleonaaBnA
import Derived.Test.YtfcbcgjgkleonaaBnO
set_option maxRecDepth 100000
set_option linter.unusedSimpArgs false
set_option linter.unusedVariables false
set_option maxHeartbeats 8000000
namespace Go.Proofs.Ytfcbcgjgkleonaa
open Go.RowKit

theorem lwithin_ok (x n : Int) (hx : i64 x) (hn : 0 < n) (hn2 : n ≤ 4611686018427387904) (w : World) :
    Calls Try.prog 16 #[.int .i64 x, .int .i64 n] w fun e w' => e = .returned (.int .i64 (withinI x n)) ∧ Frm [] w w' := by
  have hI := Inv.nil (P := Try.prog) (N := 13) (S := []) (os := []) w
  have hb := within_in (x := x) hn
  refine calls_sm (cx 13 [] [] w) (vals := [.int .i64 x, .int .i64 n]) mixed Try.func16 rfl rfl rfl hI rfl (st rfl ?_); conv => arg 3; whnf
  have hn0 : ¬ n = 0 := by omega
  by_cases h1 : x < 0
  · have e2 : IntKind.i64.wrap (0 - IntKind.i64.wrap (x + 1)) = -(x + 1) := by rw [w64 (n := x + 1) (by omega) (by omega), w64 (by omega) (by omega)]; omega
    have e3 : withinI x n = (-(x + 1)).tmod n := by unfold withinI absI; rw [if_pos h1]
    (repeat ((first | refine n_must rfl ?_ | refine n_chk (drawF_ok (by decide +kernel)) ?_ | refine n_same rfl ?_ | ((first | refine n_must ?_ ?_ | refine n_brT ?_ ?_); (focus (first | (simp [h1, hn0]; done) | (simp [h1, hn0]; omega) | (simp only [h1, hn0]; simp; done)))) | (refine n_brF ?_ ?_; (focus (first | (simp [h1, hn0]; done) | (simp [h1, hn0]; omega) | (simp only [h1, hn0]; simp; done)))) | refine n_must (by (with_reducible refine and_shape ?_) <;> kernel_rfl) ?_); (refine gs ?_)))
    refine n_ret0 rfl rfl fun ids' w' hp hI' => ⟨ret_int ?_, hI'.frm⟩
    rw [e2, ← e3]
  · have e3 : withinI x n = x.tmod n := by unfold withinI absI; rw [if_neg h1]
    (repeat ((first | refine n_must rfl ?_ | refine n_chk (drawF_ok (by decide +kernel)) ?_ | refine n_same rfl ?_ | ((first | refine n_must ?_ ?_ | refine n_brT ?_ ?_); (focus (first | (simp [h1, hn0]; done) | (simp [h1, hn0]; omega) | (simp only [h1, hn0]; simp; done)))) | (refine n_brF ?_ ?_; (focus (first | (simp [h1, hn0]; done) | (simp [h1, hn0]; omega) | (simp only [h1, hn0]; simp; done)))) | refine n_must (by (with_reducible refine and_shape ?_) <;> kernel_rfl) ?_); (refine gs ?_)))
    refine n_ret0 rfl rfl fun ids' w' hp hI' => ⟨ret_int ?_, hI'.frm⟩
    rw [← e3]

/-! ### Moves -/
abbrev Mv.l (m : Mv) : List Value := [.int .i64 m.k, .string m.nm, .int .i64 m.a, .int .i64 m.b, .int .i64 m.wait, .int .i64 m.late, .bool m.lost]
theorem mv_len (m : Mv) : m.l.length = 7 := rfl
abbrev mvRes (o : Option Addr) (l : List Mv) : Res := readRes o (l.flatMap Mv.l)
theorem mv_op {w : World} {a : Addr} {l : List Mv} {i : Nat} (h : (mvRes (some a) l).R w) {m : Mv} (hx : l[i]? = some m) {ad : Addr} (had : ad = a.add (i * 7)) : (loadVar 50 ad).run Try.prog w = .ok (.agg (opV m.k m.nm m.a m.b)) w :=
  load_row (l := [.int .i64 m.k, .string m.nm, .int .i64 m.a, .int .i64 m.b]) aggOp sizeOp fun j u hu => rd_at mv_len h hx (j := j) (by have := (List.getElem?_eq_some_iff.1 hu).1; simp at this; omega) (by
    have hj : j < 4 := by have := (List.getElem?_eq_some_iff.1 hu).1; simpa using this
    match j, hj with
    | 0, _ => exact hu
    | 1, _ => exact hu
    | 2, _ => exact hu
    | 3, _ => exact hu) (by rw [had, add_add])
theorem mv_cell {w : World} {a : Addr} {l : List Mv} {i : Nat} (h : (mvRes (some a) l).R w) {m : Mv} (hx : l[i]? = some m) (j : Nat) {u : Value} (hu : m.l[j]? = some u) {ad : Addr} (had : ad = a.add (i * 7 + j)) : w.cell? ad = some u :=
  rd_at mv_len h hx (j := j) (by have := (List.getElem?_eq_some_iff.1 hu).1; simpa using this) hu had

theorem aggMvLost : aggB Try.prog 4 = some false := by kernel_rfl
theorem story_ok {o : Option Addr} {l : List Mv} {w : World} (cap : Nat) (hR : (mvRes o l).R w) (hlt : ∀ x ∈ (mvRes o l).fp, x < w.heap.size) (hl : l.length ≤ 9223372036854775806) (hg : ∀ m ∈ l, m.good) {most : Nat} (hm : most ≤ 40) :
    Calls Try.prog 14 #[.slice o l.length cap, .int .i64 (most : Nat)] w fun e w' => ∃ y : (Option Addr × Nat) × (Option Addr × Nat), e = .returned (.tuple #[.slice y.1.1 (storyT l (min l.length most)).h.length y.1.2, .slice y.2.1 (storyT l (min l.length most)).fx.length y.2.2]) ∧ True ∧
      FreshR w w' ((paRow y.1 (storyT l (min l.length most)).h).both (efRow y.2 (storyT l (min l.length most)).fx)) := by
  obtain ⟨itp, hitp, hpp⟩ := Option.map_eq_some_iff.1 infoPast
  simp only [Prod.mk.injEq] at hpp
  obtain ⟨ite, hite, hpe⟩ := Option.map_eq_some_iff.1 infoEff
  simp only [Prod.mk.injEq] at hpe
  have hI0 : Inv (cx 125 [(13, .then [(0, []), (1, []), (2, []), (3, []), (4, []), (5, []), (6, []), (7, []), (8, []), (12, []), (13, []), (14, []), (15, []), (16, []), (17, []), (20, []), (21, [])] (.fork 9 [17, 2] (.then [(10, []), (11, [])] (.fork 18 [2] (.of [(19, []), (22, []), (23, [2]), (24, [])]) (.cons 23 [17, 2] (.of [(18, [2]), (19, []), (22, []), (24, [])])))) (.cons 23 [17, 8, 2] (.of [(9, [17, 2]), (10, []), (11, []), (18, [2]), (19, []), (22, []), (24, [])]))))] [] w) w [0] [⟨55, [.res (paRow (none, 0) [])], true⟩] := (Inv.nil w).consR (fun x hx => by cases hx) (rowRes_nil _ _ _) (fun x hx => by cases hx) (fun _ x hx => by cases hx)
  have hI := hI0.consR (t := 52) (rw_ := true) (r := efRow (none, 0) []) (fun x hx => by cases hx) (rowRes_nil _ _ _) (fun x hx => by cases hx) (fun _ x hx => by cases hx)
  have hM1 : ∀ w1, Frm [] w w1 → (mvRes o l).R w1 := fun w1 hf => (mvRes o l).stable _ _ (fun k hk => hf.block k (hlt k hk) (by simp)) hR
  refine calls_sm (cx 125 [(13, .then [(0, []), (1, []), (2, []), (3, []), (4, []), (5, []), (6, []), (7, []), (8, []), (12, []), (13, []), (14, []), (15, []), (16, []), (17, []), (20, []), (21, [])] (.fork 9 [17, 2] (.then [(10, []), (11, [])] (.fork 18 [2] (.of [(19, []), (22, []), (23, [2]), (24, [])]) (.cons 23 [17, 2] (.of [(18, [2]), (19, []), (22, []), (24, [])])))) (.cons 23 [17, 8, 2] (.of [(9, [17, 2]), (10, []), (11, []), (18, [2]), (19, []), (22, []), (24, [])]))))] [] w) (vals := [.raw (.slice o l.length cap), .int .i64 (most : Nat)]) mixed Try.func14 rfl rfl rfl hI rfl (st rfl ?_); conv => arg 3; whnf
  refine gg ?_
  refine n_callN (fun y : Nat => rmaRes y (none, 0) [] G0) 111 (fun y => .raw (pV y)) (fun y => pV y) (fun _ => True) rfl rfl rfl (fun _ => rfl) (fun w1 hI1 => rmNewA_ok w1) ?_
  intro q0 _ hnew
  (refine gs ?_)
  refine gw ?_
  refine n_loop (σ := Nat × ((Option Addr × Nat) × (Option Addr × Nat)) × (Option Addr × Nat) × List Rc × List Rw) (fun t => [(0, .raw (.slice o l.length cap)), (1, .int .i64 (most : Nat)), (6, .raw (pV q0)), (7, .raw (.slice t.2.1.1.1 (storyT l t.1).h.length t.2.1.1.2)), (8, .raw (.slice t.2.1.2.1 (storyT l t.1).fx.length t.2.1.2.2)), (9, .int .i64 (storyT l t.1).hold), (10, .int .i64 (t.1 : Nat))]) (fun t => [⟨55, [.res (paRow t.2.1.1 (storyT l t.1).h)], true⟩, ⟨52, [.res (efRow t.2.1.2 (storyT l t.1).fx)], true⟩, ⟨111, [.res (rmaRes q0 t.2.2.1 t.2.2.2.1 t.2.2.2.2)], true⟩]) (fun t => t.1 ≤ min l.length most ∧ ks t.2.2.2.1 = (storyT l t.1).l ∧ AllIn t.2.2.2.2 t.2.2.2.1 ∧ NilG t.2.2.2.2) (fun t => min l.length most - t.1) (0, ((none, 0), (none, 0)), (none, 0), [], G0) mixed ⟨by dsimp only; omega, rfl, fun c hc => by simp at hc, G0_nil⟩ (fun _ _ => rfl) rfl (by (repeat (first | exact trivial | refine ⟨⟨rfl, rfl⟩, ?_⟩))) (fun s _ => ⟨by (repeat (first | exact trivial | refine ⟨⟨_, rfl⟩, ?_⟩)), by (repeat (first | exact trivial | refine ⟨⟨_, rfl⟩, ?_⟩))⟩) fun t ht => ?_
  obtain ⟨i, ⟨⟨ho, hc⟩, ⟨eo, ec⟩⟩, y, A, G⟩ := t
  obtain ⟨hi, hks, hin, hng⟩ := ht
  dsimp only at hi hks hin hng ⊢
  (refine gs ?_)
  by_cases hil : i < min l.length most
  · have ei : IntKind.i64.wrap ((i : Int) + 1) = ((i + 1 : Nat) : Int) := by rw [w64 (by omega) (by omega)]; simp
    have eat : IntKind.i64.wrap (4 * IntKind.i64.wrap ((i : Int) + 1)) = 4 * ((i : Int) + 1) := by rw [w64 (n := (i : Int) + 1) (by omega) (by omega), w64 (by omega) (by omega)]
    have hi1 : i < l.length := by omega
    have hi2 : i < most := by omega
    have hx : l[i]? = some l[i] := List.getElem?_eq_getElem hi1
    obtain ⟨ad, rfl⟩ := rd_some mv_len (by omega) hR (show 0 < l.length by omega)
    have hmg := hg l[i] (List.getElem_mem hi1)
    generalize l[i] = m at hx hmg
    obtain ⟨b1, b2, b3, b4, b5⟩ := storyT_in l i
    have hnx := storyT_next hx
    generalize storyT l i = s at hnx hks b1 b2 b3 b4 b5
    obtain ⟨sh, sfx, shold, sl⟩ := s
    dsimp only at hks b1 b2 b3 b4 b5 ⊢
    have ehold : IntKind.i64.wrap (shold + 1) = shold + 1 := w64 (by omega) (by omega)
    have hw1 := within_in (x := m.wait) (show (0 : Int) < 12 by omega)
    have hw2 := within_in (x := m.late) (show (0 : Int) < 12 by omega)
    refine gw ?_
    (refine n_ldA (.agg (opS m.k m.nm m.a m.b)) rfl (by first | exact trivial | rfl) rfl (fun _ w1 _ hI1 => mv_op (hM1 _ hI1.frm) hx rfl) ?_; (refine gs ?_))
    refine gw ?_
    have eN : min l.length most = min l.length most := rfl
    by_cases k1 : m.k < 1
    · have hst : stepS ⟨sh, sfx, shold, sl⟩ i m = ⟨sh, sfx, shold, sl⟩ := by unfold stepS; rw [if_pos (.inl k1)]
      (repeat ((first | refine n_must rfl ?_ | refine n_chk (drawF_ok (by decide +kernel)) ?_ | refine n_same rfl ?_ | ((first | refine n_must ?_ ?_ | refine n_brT ?_ ?_); (focus (first | (simp [k1]; done) | (simp [k1]; omega) | (simp only [k1]; simp; done)))) | (refine n_brF ?_ ?_; (focus (first | (simp [k1]; done) | (simp [k1]; omega) | (simp only [k1]; simp; done)))) | refine n_must (by (with_reducible refine and_shape ?_) <;> kernel_rfl) ?_); (refine gs ?_)))
      refine n_again ⟨(i + 1, ((ho, hc), (eo, ec)), y, A, G), ⟨by dsimp only; omega, by dsimp only; rw [hnx, hst]; exact hks, hin, hng⟩, by dsimp only; omega, ?_, ?_⟩
      · dsimp only
        rw [hnx, hst]
        exact (by (repeat (first | exact trivial | refine ⟨⟨rfl, rfl⟩, ?_⟩ | refine ⟨⟨rfl, congrArg (SV.int .i64) ei⟩, ?_⟩)))
      · dsimp only
        rw [hnx, hst]
        exact ⟨_, rfl⟩
    by_cases k10 : 10 < m.k
    · have hst : stepS ⟨sh, sfx, shold, sl⟩ i m = ⟨sh, sfx, shold, sl⟩ := by unfold stepS; rw [if_pos (.inr k10)]
      (repeat ((first | refine n_must rfl ?_ | refine n_chk (drawF_ok (by decide +kernel)) ?_ | refine n_same rfl ?_ | ((first | refine n_must ?_ ?_ | refine n_brT ?_ ?_); (focus (first | (simp [k1, k10]; done) | (simp [k1, k10]; omega) | (simp only [k1, k10]; simp; done)))) | (refine n_brF ?_ ?_; (focus (first | (simp [k1, k10]; done) | (simp [k1, k10]; omega) | (simp only [k1, k10]; simp; done)))) | refine n_must (by (with_reducible refine and_shape ?_) <;> kernel_rfl) ?_); (refine gs ?_)))
      refine n_again ⟨(i + 1, ((ho, hc), (eo, ec)), y, A, G), ⟨by dsimp only; omega, by dsimp only; rw [hnx, hst]; exact hks, hin, hng⟩, by dsimp only; omega, ?_, ?_⟩
      · dsimp only
        rw [hnx, hst]
        exact (by (repeat (first | exact trivial | refine ⟨⟨rfl, rfl⟩, ?_⟩ | refine ⟨⟨rfl, congrArg (SV.int .i64) ei⟩, ?_⟩)))
      · dsimp only
        rw [hnx, hst]
        exact ⟨_, rfl⟩
    have hft : ∀ c ∈ ks A, c.fit := fun c hc => by
      rw [hks] at hc
      obtain ⟨h1, h2, h3⟩ := b5.1 c hc
      exact ⟨h1.in_, by omega, by omega⟩
    have hAl : A.length ≤ 1759218604439 := by
      have h1 := b5.2
      have h2 : (ks A).length = A.length := by simp
      rw [hks] at h2; omega
    have hst0 : stepS ⟨sh, sfx, shold, sl⟩ i m = if errS (doR (ks A) m.k m.nm m.a m.b (shold + 1)).2.2 m.k = true then ⟨sh ++ [p0S i m (doR (ks A) m.k m.nm m.a m.b (shold + 1)).2.2 (doR (ks A) m.k m.nm m.a m.b (shold + 1)).2.1], sfx, shold + 1, (doR (ks A) m.k m.nm m.a m.b (shold + 1)).1⟩
        else ⟨sh ++ [p1S i m (doR (ks A) m.k m.nm m.a m.b (shold + 1)).2.2 (doR (ks A) m.k m.nm m.a m.b (shold + 1)).2.1], sfx ++ [efS i m (doR (ks A) m.k m.nm m.a m.b (shold + 1)).2.2 (doR (ks A) m.k m.nm m.a m.b (shold + 1)).2.1], shold + 1, (doR (ks A) m.k m.nm m.a m.b (shold + 1)).1⟩ := by
      unfold stepS; rw [if_neg (by omega), hks]
    rw [hst0] at hnx
    (repeat ((first | refine n_must rfl ?_ | refine n_chk (drawF_ok (by decide +kernel)) ?_ | refine n_same rfl ?_ | ((first | refine n_must ?_ ?_ | refine n_brT ?_ ?_); (focus (first | (simp [k1, k10]; done) | (simp [k1, k10]; omega) | (simp only [k1, k10]; simp; done)))) | (refine n_brF ?_ ?_; (focus (first | (simp [k1, k10]; done) | (simp [k1, k10]; omega) | (simp only [k1, k10]; simp; done)))) | refine n_must (by (with_reducible refine and_shape ?_) <;> kernel_rfl) ?_); (refine gs ?_)))
    rw [ehold]
    refine n_call1 rfl fun b1 => ?_
    refine n_callR (Y := (Option Addr × Nat) × List Rc × List Rw) 2 (ρ := rmaRes q0 y A G) (fun z => rmaRes q0 z.1 z.2.1 z.2.2) (fun _ => ansS (doR (ks A) m.k m.nm m.a m.b (shold + 1)).2.1 (doR (ks A) m.k m.nm m.a m.b (shold + 1)).2.2) (fun _ => ansV (doR (ks A) m.k m.nm m.a m.b (shold + 1)).2.1 (doR (ks A) m.k m.nm m.a m.b (shold + 1)).2.2) (fun z => ks z.2.1 = (doR (ks A) m.k m.nm m.a m.b (shold + 1)).1 ∧ AllIn z.2.2 z.2.1 ∧ ∀ r ∈ G, r ∈ z.2.2) rfl rfl (fun _ => rfl) rfl rfl rfl (fun _ w1 hp1 hI1 hR => rmDo_ok hR hin hng hft (by omega) m.k m.nm m.a m.b (shold + 1)) ?_
    rintro ⟨y2, A2, G2⟩ ⟨hks2, hin2, hsub⟩
    have hng2 : NilG G2 := ⟨hsub _ hng.1, hsub _ hng.2⟩
    generalize doR (ks A) m.k m.nm m.a m.b (shold + 1) = D at hnx hks2
    obtain ⟨D1, v, e⟩ := D
    dsimp only at hnx hks2 ⊢
    clear hst0
    (refine gs ?_)
    refine gw ?_
    have c4 : ∀ {w1}, Frm [] w w1 → w1.cell? ((ad.add (i * 7)).add 4) = some (.int .i64 m.wait) := fun hf => mv_cell (hM1 _ hf) hx 4 rfl (add_add _ _ _)
    have c5 : ∀ {w1}, Frm [] w w1 → w1.cell? ((ad.add (i * 7)).add 5) = some (.int .i64 m.late) := fun hf => mv_cell (hM1 _ hf) hx 5 rfl (add_add _ _ _)
    have c6 : ∀ {w1}, Frm [] w w1 → w1.cell? ((ad.add (i * 7)).add 6) = some (.bool m.lost) := fun hf => mv_cell (hM1 _ hf) hx 6 rfl (add_add _ _ _)
    have ew : IntKind.i64.wrap (IntKind.i64.wrap (4 * IntKind.i64.wrap ((i : Int) + 1)) - withinI m.wait 12) = 4 * ((i : Int) + 1) - withinI m.wait 12 := by rw [eat, w64 (by omega) (by omega)]
    have el : IntKind.i64.wrap (IntKind.i64.wrap (4 * IntKind.i64.wrap ((i : Int) + 1)) + withinI m.late 12) = 4 * ((i : Int) + 1) + withinI m.late 12 := by rw [eat, w64 (by omega) (by omega)]
    have l2 : ∀ Q : Ef, (sfx ++ [Q]).length = sfx.length + 1 := fun Q => by simp
    have l1 : ∀ Q : Pa, (sh ++ [Q]).length = sh.length + 1 := fun Q => by simp
    (refine n_ldA (.int .i64 m.wait) rfl (by first | exact trivial | rfl) rfl (fun _ w1 _ hI1 => load_cell aggInt (c4 hI1.frm)) ?_; (refine gs ?_))
    refine gw ?_
    (refine n_ldA (.int .i64 m.late) rfl (by first | exact trivial | rfl) rfl (fun _ w1 _ hI1 => load_cell aggInt (c5 hI1.frm)) ?_; (refine gs ?_))
    refine gw ?_
    refine n_both ?_ ?_ <;> (refine gs ?_)
    · refine gw ?_
      refine n_sameP (.int .i64 (withinI m.wait 12)) rfl rfl rfl (fun _ w1 hp1 hI1 => lwithin_ok m.wait 12 hmg.wait (by omega) (by omega) w1) ?_; (refine gs ?_)
      refine gw ?_
      (refine n_ldA (.int .i64 m.late) rfl (by first | exact trivial | rfl) rfl (fun _ w1 _ hI1 => load_cell aggInt (c5 hI1.frm)) ?_; (refine gs ?_))
      refine gw ?_
      refine n_both ?_ ?_ <;> (refine gs ?_)
      · refine gw ?_
        refine n_sameP (.int .i64 (withinI m.late 12)) rfl rfl rfl (fun _ w1 hp1 hI1 => lwithin_ok m.late 12 hmg.late (by omega) (by omega) w1) ?_; (refine gs ?_)
        refine gw ?_
        by_cases e1 : e = 1
        · have hn2 : storyT l (i + 1) = ⟨sh ++ [p0S i m e v], sfx, shold + 1, D1⟩ := by rw [hnx, if_pos (by simp [errS, e1])]
          (repeat ((first | refine n_must rfl ?_ | refine n_chk (drawF_ok (by decide +kernel)) ?_ | refine n_same rfl ?_ | ((first | refine n_must ?_ ?_ | refine n_brT ?_ ?_); (focus (first | (simp [e1]; done) | (simp [e1]; omega) | (simp only [e1]; simp; done)))) | (refine n_brF ?_ ?_; (focus (first | (simp [e1]; done) | (simp [e1]; omega) | (simp only [e1]; simp; done)))) | refine n_must (by (with_reducible refine and_shape ?_) <;> kernel_rfl) ?_); (refine gs ?_)))
          refine n_build1 rfl rfl elemPast rfl rfl rfl rfl rfl rfl rfl rfl rfl ?_
          (refine gs ?_)
          refine gw ?_
          refine n_append 0 rfl rfl elemPast hitp hpp.1 hpp.2.1 hpp.2.2 rfl (by omega) rfl rfl rfl rfl rfl rfl (by omega) (by simp [Value.oneCell']) (by omega) (by omega) (show sh.flatMap Pa.l ++ _ = (sh ++ [(p0S i m e v)]).flatMap Pa.l by rw [List.flatMap_append]; simp [p0S, ew, el]) fun gp cp => ?_
          (refine gs ?_)
          refine gw ?_
          rw [← l1 (p0S i m e v)]
          refine n_again ⟨(i + 1, ((some ⟨gp, 0, none⟩, cp), (eo, ec)), y2, A2, G2), ⟨by dsimp only; omega, by dsimp only; rw [hn2]; exact hks2, hin2, hng2⟩, by dsimp only; omega, ?_, ?_⟩
          · dsimp only
            rw [hn2]
            exact (by (repeat (first | exact trivial | refine ⟨⟨rfl, rfl⟩, ?_⟩ | refine ⟨⟨rfl, congrArg (SV.int .i64) ei⟩, ?_⟩)))
          · dsimp only
            rw [hn2]
            exact ⟨_, rfl⟩
        by_cases e60 : e = 60 ∧ m.k ≠ 8
        · obtain ⟨e60, k8⟩ := e60
          have hn2 : storyT l (i + 1) = ⟨sh ++ [p0S i m e v], sfx, shold + 1, D1⟩ := by rw [hnx, if_pos (by simp [errS, e60, k8])]
          (repeat ((first | refine n_must rfl ?_ | refine n_chk (drawF_ok (by decide +kernel)) ?_ | refine n_same rfl ?_ | ((first | refine n_must ?_ ?_ | refine n_brT ?_ ?_); (focus (first | (simp [e60, k8]; done) | (simp [e60, k8]; omega) | (simp only [e60, k8]; simp; done)))) | (refine n_brF ?_ ?_; (focus (first | (simp [e60, k8]; done) | (simp [e60, k8]; omega) | (simp only [e60, k8]; simp; done)))) | refine n_must (by (with_reducible refine and_shape ?_) <;> kernel_rfl) ?_); (refine gs ?_)))
          refine n_build1 rfl rfl elemPast rfl rfl rfl rfl rfl rfl rfl rfl rfl ?_
          (refine gs ?_)
          refine gw ?_
          refine n_append 0 rfl rfl elemPast hitp hpp.1 hpp.2.1 hpp.2.2 rfl (by omega) rfl rfl rfl rfl rfl rfl (by omega) (by simp [Value.oneCell']) (by omega) (by omega) (show sh.flatMap Pa.l ++ _ = (sh ++ [(p0S i m e v)]).flatMap Pa.l by rw [List.flatMap_append]; simp [p0S, ew, el]) fun gp cp => ?_
          (refine gs ?_)
          refine gw ?_
          rw [← l1 (p0S i m e v)]
          refine n_again ⟨(i + 1, ((some ⟨gp, 0, none⟩, cp), (eo, ec)), y2, A2, G2), ⟨by dsimp only; omega, by dsimp only; rw [hn2]; exact hks2, hin2, hng2⟩, by dsimp only; omega, ?_, ?_⟩
          · dsimp only
            rw [hn2]
            exact (by (repeat (first | exact trivial | refine ⟨⟨rfl, rfl⟩, ?_⟩ | refine ⟨⟨rfl, congrArg (SV.int .i64) ei⟩, ?_⟩)))
          · dsimp only
            rw [hn2]
            exact ⟨_, rfl⟩
        have hE : errS e m.k = false := by simp only [errS, decide_eq_false_iff_not]; omega
        have hgo : ∀ X : Pa, p1S i m e v = X → storyT l (i + 1) = ⟨sh ++ [X], sfx ++ [efS i m e v], shold + 1, D1⟩ := fun X hX => by rw [hnx, if_neg (by rw [hE]; simp), hX]
        by_cases e60' : e = 60
        · have k8 : m.k = 8 := by omega
          (repeat ((first | refine n_must rfl ?_ | refine n_chk (drawF_ok (by decide +kernel)) ?_ | refine n_same rfl ?_ | ((first | refine n_must ?_ ?_ | refine n_brT ?_ ?_); (focus (first | (simp [e1, e60', k8]; done) | (simp [e1, e60', k8]; omega) | (simp only [e1, e60', k8]; simp; done)))) | (refine n_brF ?_ ?_; (focus (first | (simp [e1, e60', k8]; done) | (simp [e1, e60', k8]; omega) | (simp only [e1, e60', k8]; simp; done)))) | refine n_must (by (with_reducible refine and_shape ?_) <;> kernel_rfl) ?_); (refine gs ?_)))
          refine n_build1 rfl rfl elemEff rfl rfl rfl rfl rfl rfl rfl rfl rfl ?_
          (refine gs ?_)
          refine gw ?_
          refine n_append 1 rfl rfl elemEff hite hpe.1 hpe.2.1 hpe.2.2 rfl (by omega) rfl rfl rfl rfl rfl rfl (by omega) (by simp [Value.oneCell']) (by omega) (by omega) (show sfx.flatMap Ef.l ++ _ = (sfx ++ [efS i m e v]).flatMap Ef.l by rw [List.flatMap_append]; simp [efS, eat]) fun ge ce => ?_
          (refine gs ?_)
          refine gw ?_
          rw [← l2 (efS i m e v)]
          refine n_ldI (.bool m.lost) rfl rfl (fun _ w1 _ hI1 => load_cell aggMvLost (c6 hI1.frm)) ?_
          (refine gs ?_)
          by_cases hlo : m.lost = true
          · have hn2 := hgo _ (show p1S i m e v = { p0S i m e v with er := 111, va := 0 } by unfold p1S; rw [if_pos hlo])
            (repeat ((first | refine n_must rfl ?_ | refine n_chk (drawF_ok (by decide +kernel)) ?_ | refine n_same rfl ?_ | ((first | refine n_must ?_ ?_ | refine n_brT ?_ ?_); (focus (first | (simp [hlo]; done) | (simp [hlo]; omega) | (simp only [hlo]; simp; done)))) | (refine n_brF ?_ ?_; (focus (first | (simp [hlo]; done) | (simp [hlo]; omega) | (simp only [hlo]; simp; done)))) | refine n_must (by (with_reducible refine and_shape ?_) <;> kernel_rfl) ?_); (refine gs ?_)))
            refine n_build1 rfl rfl elemPast rfl rfl rfl rfl rfl rfl rfl rfl rfl ?_
            (refine gs ?_)
            refine gw ?_
            refine n_append 0 rfl rfl elemPast hitp hpp.1 hpp.2.1 hpp.2.2 rfl (by omega) rfl rfl rfl rfl rfl rfl (by omega) (by simp [Value.oneCell']) (by omega) (by omega) (show sh.flatMap Pa.l ++ _ = (sh ++ [{ p0S i m e v with er := 111, va := 0 }]).flatMap Pa.l by rw [List.flatMap_append]; simp [p0S, ew, el]) fun gp cp => ?_
            (refine gs ?_)
            refine gw ?_
            rw [← l1 { p0S i m e v with er := 111, va := 0 }]
            refine n_again ⟨(i + 1, ((some ⟨gp, 0, none⟩, cp), (some ⟨ge, 0, none⟩, ce)), y2, A2, G2), ⟨by dsimp only; omega, by dsimp only; rw [hn2]; exact hks2, hin2, hng2⟩, by dsimp only; omega, ?_, ?_⟩
            · dsimp only
              rw [hn2]
              exact (by (repeat (first | exact trivial | refine ⟨⟨rfl, rfl⟩, ?_⟩ | refine ⟨⟨rfl, congrArg (SV.int .i64) ei⟩, ?_⟩)))
            · dsimp only
              rw [hn2]
              exact ⟨_, rfl⟩
          · (repeat ((first | refine n_must rfl ?_ | refine n_chk (drawF_ok (by decide +kernel)) ?_ | refine n_same rfl ?_ | ((first | refine n_must ?_ ?_ | refine n_brT ?_ ?_); (focus (first | (simp [hlo]; done) | (simp [hlo]; omega) | (simp only [hlo]; simp; done)))) | (refine n_brF ?_ ?_; (focus (first | (simp [hlo]; done) | (simp [hlo]; omega) | (simp only [hlo]; simp; done)))) | refine n_must (by (with_reducible refine and_shape ?_) <;> kernel_rfl) ?_); (refine gs ?_)))
            refine n_ldI (.int .i64 m.late) rfl rfl (fun _ w1 _ hI1 => load_cell aggInt (c5 hI1.frm)) ?_
            (refine gs ?_)
            by_cases hod : andI .i64 m.late 1 = 1
            · have hn2 := hgo _ (show p1S i m e v = { p0S i m e v with to := -1, er := 0, va := 0 } by unfold p1S; rw [if_neg hlo, if_pos hod])
              (repeat ((first | refine n_must rfl ?_ | refine n_chk (drawF_ok (by decide +kernel)) ?_ | refine n_same rfl ?_ | ((first | refine n_must ?_ ?_ | refine n_brT ?_ ?_); (focus (first | (simp [hod]; done) | (simp [hod]; omega) | (simp only [hod]; simp; done)))) | (refine n_brF ?_ ?_; (focus (first | (simp [hod]; done) | (simp [hod]; omega) | (simp only [hod]; simp; done)))) | refine n_must (by (with_reducible refine and_shape ?_) <;> kernel_rfl) ?_); (refine gs ?_)))
              refine n_build1 rfl rfl elemPast rfl rfl rfl rfl rfl rfl rfl rfl rfl ?_
              (refine gs ?_)
              refine gw ?_
              refine n_append 0 rfl rfl elemPast hitp hpp.1 hpp.2.1 hpp.2.2 rfl (by omega) rfl rfl rfl rfl rfl rfl (by omega) (by simp [Value.oneCell']) (by omega) (by omega) (show sh.flatMap Pa.l ++ _ = (sh ++ [{ p0S i m e v with to := -1, er := 0, va := 0 }]).flatMap Pa.l by rw [List.flatMap_append]; simp [p0S, ew, el]) fun gp cp => ?_
              (refine gs ?_)
              refine gw ?_
              rw [← l1 { p0S i m e v with to := -1, er := 0, va := 0 }]
              refine n_again ⟨(i + 1, ((some ⟨gp, 0, none⟩, cp), (some ⟨ge, 0, none⟩, ce)), y2, A2, G2), ⟨by dsimp only; omega, by dsimp only; rw [hn2]; exact hks2, hin2, hng2⟩, by dsimp only; omega, ?_, ?_⟩
              · dsimp only
                rw [hn2]
                exact (by (repeat (first | exact trivial | refine ⟨⟨rfl, rfl⟩, ?_⟩ | refine ⟨⟨rfl, congrArg (SV.int .i64) ei⟩, ?_⟩)))
              · dsimp only
                rw [hn2]
                exact ⟨_, rfl⟩
            · have hn2 := hgo _ (show p1S i m e v = p0S i m e v by unfold p1S; rw [if_neg hlo, if_neg hod])
              (repeat ((first | refine n_must rfl ?_ | refine n_chk (drawF_ok (by decide +kernel)) ?_ | refine n_same rfl ?_ | ((first | refine n_must ?_ ?_ | refine n_brT ?_ ?_); (focus (first | (simp [hod]; done) | (simp [hod]; omega) | (simp only [hod]; simp; done)))) | (refine n_brF ?_ ?_; (focus (first | (simp [hod]; done) | (simp [hod]; omega) | (simp only [hod]; simp; done)))) | refine n_must (by (with_reducible refine and_shape ?_) <;> kernel_rfl) ?_); (refine gs ?_)))
              refine n_build1 rfl rfl elemPast rfl rfl rfl rfl rfl rfl rfl rfl rfl ?_
              (refine gs ?_)
              refine gw ?_
              refine n_append 0 rfl rfl elemPast hitp hpp.1 hpp.2.1 hpp.2.2 rfl (by omega) rfl rfl rfl rfl rfl rfl (by omega) (by simp [Value.oneCell']) (by omega) (by omega) (show sh.flatMap Pa.l ++ _ = (sh ++ [(p0S i m e v)]).flatMap Pa.l by rw [List.flatMap_append]; simp [p0S, ew, el]) fun gp cp => ?_
              (refine gs ?_)
              refine gw ?_
              rw [← l1 (p0S i m e v)]
              refine n_again ⟨(i + 1, ((some ⟨gp, 0, none⟩, cp), (some ⟨ge, 0, none⟩, ce)), y2, A2, G2), ⟨by dsimp only; omega, by dsimp only; rw [hn2]; exact hks2, hin2, hng2⟩, by dsimp only; omega, ?_, ?_⟩
              · dsimp only
                rw [hn2]
                exact (by (repeat (first | exact trivial | refine ⟨⟨rfl, rfl⟩, ?_⟩ | refine ⟨⟨rfl, congrArg (SV.int .i64) ei⟩, ?_⟩)))
              · dsimp only
                rw [hn2]
                exact ⟨_, rfl⟩
        · (repeat ((first | refine n_must rfl ?_ | refine n_chk (drawF_ok (by decide +kernel)) ?_ | refine n_same rfl ?_ | ((first | refine n_must ?_ ?_ | refine n_brT ?_ ?_); (focus (first | (simp [e1, e60']; done) | (simp [e1, e60']; omega) | (simp only [e1, e60']; simp; done)))) | (refine n_brF ?_ ?_; (focus (first | (simp [e1, e60']; done) | (simp [e1, e60']; omega) | (simp only [e1, e60']; simp; done)))) | refine n_must (by (with_reducible refine and_shape ?_) <;> kernel_rfl) ?_); (refine gs ?_)))
          refine n_build1 rfl rfl elemEff rfl rfl rfl rfl rfl rfl rfl rfl rfl ?_
          (refine gs ?_)
          refine gw ?_
          refine n_append 1 rfl rfl elemEff hite hpe.1 hpe.2.1 hpe.2.2 rfl (by omega) rfl rfl rfl rfl rfl rfl (by omega) (by simp [Value.oneCell']) (by omega) (by omega) (show sfx.flatMap Ef.l ++ _ = (sfx ++ [efS i m e v]).flatMap Ef.l by rw [List.flatMap_append]; simp [efS, eat]) fun ge ce => ?_
          (refine gs ?_)
          refine gw ?_
          rw [← l2 (efS i m e v)]
          refine n_ldI (.bool m.lost) rfl rfl (fun _ w1 _ hI1 => load_cell aggMvLost (c6 hI1.frm)) ?_
          (refine gs ?_)
          by_cases hlo : m.lost = true
          · have hn2 := hgo _ (show p1S i m e v = { p0S i m e v with er := 111, va := 0 } by unfold p1S; rw [if_pos hlo])
            (repeat ((first | refine n_must rfl ?_ | refine n_chk (drawF_ok (by decide +kernel)) ?_ | refine n_same rfl ?_ | ((first | refine n_must ?_ ?_ | refine n_brT ?_ ?_); (focus (first | (simp [hlo]; done) | (simp [hlo]; omega) | (simp only [hlo]; simp; done)))) | (refine n_brF ?_ ?_; (focus (first | (simp [hlo]; done) | (simp [hlo]; omega) | (simp only [hlo]; simp; done)))) | refine n_must (by (with_reducible refine and_shape ?_) <;> kernel_rfl) ?_); (refine gs ?_)))
            refine n_build1 rfl rfl elemPast rfl rfl rfl rfl rfl rfl rfl rfl rfl ?_
            (refine gs ?_)
            refine gw ?_
            refine n_append 0 rfl rfl elemPast hitp hpp.1 hpp.2.1 hpp.2.2 rfl (by omega) rfl rfl rfl rfl rfl rfl (by omega) (by simp [Value.oneCell']) (by omega) (by omega) (show sh.flatMap Pa.l ++ _ = (sh ++ [{ p0S i m e v with er := 111, va := 0 }]).flatMap Pa.l by rw [List.flatMap_append]; simp [p0S, ew, el]) fun gp cp => ?_
            (refine gs ?_)
            refine gw ?_
            rw [← l1 { p0S i m e v with er := 111, va := 0 }]
            refine n_again ⟨(i + 1, ((some ⟨gp, 0, none⟩, cp), (some ⟨ge, 0, none⟩, ce)), y2, A2, G2), ⟨by dsimp only; omega, by dsimp only; rw [hn2]; exact hks2, hin2, hng2⟩, by dsimp only; omega, ?_, ?_⟩
            · dsimp only
              rw [hn2]
              exact (by (repeat (first | exact trivial | refine ⟨⟨rfl, rfl⟩, ?_⟩ | refine ⟨⟨rfl, congrArg (SV.int .i64) ei⟩, ?_⟩)))
            · dsimp only
              rw [hn2]
              exact ⟨_, rfl⟩
          · (repeat ((first | refine n_must rfl ?_ | refine n_chk (drawF_ok (by decide +kernel)) ?_ | refine n_same rfl ?_ | ((first | refine n_must ?_ ?_ | refine n_brT ?_ ?_); (focus (first | (simp [hlo]; done) | (simp [hlo]; omega) | (simp only [hlo]; simp; done)))) | (refine n_brF ?_ ?_; (focus (first | (simp [hlo]; done) | (simp [hlo]; omega) | (simp only [hlo]; simp; done)))) | refine n_must (by (with_reducible refine and_shape ?_) <;> kernel_rfl) ?_); (refine gs ?_)))
            refine n_ldI (.int .i64 m.late) rfl rfl (fun _ w1 _ hI1 => load_cell aggInt (c5 hI1.frm)) ?_
            (refine gs ?_)
            by_cases hod : andI .i64 m.late 1 = 1
            · have hn2 := hgo _ (show p1S i m e v = { p0S i m e v with to := -1, er := 0, va := 0 } by unfold p1S; rw [if_neg hlo, if_pos hod])
              (repeat ((first | refine n_must rfl ?_ | refine n_chk (drawF_ok (by decide +kernel)) ?_ | refine n_same rfl ?_ | ((first | refine n_must ?_ ?_ | refine n_brT ?_ ?_); (focus (first | (simp [hod]; done) | (simp [hod]; omega) | (simp only [hod]; simp; done)))) | (refine n_brF ?_ ?_; (focus (first | (simp [hod]; done) | (simp [hod]; omega) | (simp only [hod]; simp; done)))) | refine n_must (by (with_reducible refine and_shape ?_) <;> kernel_rfl) ?_); (refine gs ?_)))
              refine n_build1 rfl rfl elemPast rfl rfl rfl rfl rfl rfl rfl rfl rfl ?_
              (refine gs ?_)
              refine gw ?_
              refine n_append 0 rfl rfl elemPast hitp hpp.1 hpp.2.1 hpp.2.2 rfl (by omega) rfl rfl rfl rfl rfl rfl (by omega) (by simp [Value.oneCell']) (by omega) (by omega) (show sh.flatMap Pa.l ++ _ = (sh ++ [{ p0S i m e v with to := -1, er := 0, va := 0 }]).flatMap Pa.l by rw [List.flatMap_append]; simp [p0S, ew, el]) fun gp cp => ?_
              (refine gs ?_)
              refine gw ?_
              rw [← l1 { p0S i m e v with to := -1, er := 0, va := 0 }]
              refine n_again ⟨(i + 1, ((some ⟨gp, 0, none⟩, cp), (some ⟨ge, 0, none⟩, ce)), y2, A2, G2), ⟨by dsimp only; omega, by dsimp only; rw [hn2]; exact hks2, hin2, hng2⟩, by dsimp only; omega, ?_, ?_⟩
              · dsimp only
                rw [hn2]
                exact (by (repeat (first | exact trivial | refine ⟨⟨rfl, rfl⟩, ?_⟩ | refine ⟨⟨rfl, congrArg (SV.int .i64) ei⟩, ?_⟩)))
              · dsimp only
                rw [hn2]
                exact ⟨_, rfl⟩
            · have hn2 := hgo _ (show p1S i m e v = p0S i m e v by unfold p1S; rw [if_neg hlo, if_neg hod])
              (repeat ((first | refine n_must rfl ?_ | refine n_chk (drawF_ok (by decide +kernel)) ?_ | refine n_same rfl ?_ | ((first | refine n_must ?_ ?_ | refine n_brT ?_ ?_); (focus (first | (simp [hod]; done) | (simp [hod]; omega) | (simp only [hod]; simp; done)))) | (refine n_brF ?_ ?_; (focus (first | (simp [hod]; done) | (simp [hod]; omega) | (simp only [hod]; simp; done)))) | refine n_must (by (with_reducible refine and_shape ?_) <;> kernel_rfl) ?_); (refine gs ?_)))
              refine n_build1 rfl rfl elemPast rfl rfl rfl rfl rfl rfl rfl rfl rfl ?_
              (refine gs ?_)
              refine gw ?_
              refine n_append 0 rfl rfl elemPast hitp hpp.1 hpp.2.1 hpp.2.2 rfl (by omega) rfl rfl rfl rfl rfl rfl (by omega) (by simp [Value.oneCell']) (by omega) (by omega) (show sh.flatMap Pa.l ++ _ = (sh ++ [(p0S i m e v)]).flatMap Pa.l by rw [List.flatMap_append]; simp [p0S, ew, el]) fun gp cp => ?_
              (refine gs ?_)
              refine gw ?_
              rw [← l1 (p0S i m e v)]
              refine n_again ⟨(i + 1, ((some ⟨gp, 0, none⟩, cp), (some ⟨ge, 0, none⟩, ce)), y2, A2, G2), ⟨by dsimp only; omega, by dsimp only; rw [hn2]; exact hks2, hin2, hng2⟩, by dsimp only; omega, ?_, ?_⟩
              · dsimp only
                rw [hn2]
                exact (by (repeat (first | exact trivial | refine ⟨⟨rfl, rfl⟩, ?_⟩ | refine ⟨⟨rfl, congrArg (SV.int .i64) ei⟩, ?_⟩)))
              · dsimp only
                rw [hn2]
                exact ⟨_, rfl⟩
      · refine gw ?_
        (refine n_ldA (.int .i64 m.late) rfl (by first | exact trivial | rfl) rfl (fun _ w1 _ hI1 => load_cell aggInt (c5 hI1.frm)) ?_; (refine gs ?_))
        refine gw ?_
        refine n_sameP (.int .i64 (withinI m.late 12)) rfl rfl rfl (fun _ w1 hp1 hI1 => lwithin_ok m.late 12 hmg.late (by omega) (by omega) w1) ?_; (refine gs ?_)
        refine gw ?_
        by_cases e1 : e = 1
        · have hn2 : storyT l (i + 1) = ⟨sh ++ [p0S i m e v], sfx, shold + 1, D1⟩ := by rw [hnx, if_pos (by simp [errS, e1])]
          (repeat ((first | refine n_must rfl ?_ | refine n_chk (drawF_ok (by decide +kernel)) ?_ | refine n_same rfl ?_ | ((first | refine n_must ?_ ?_ | refine n_brT ?_ ?_); (focus (first | (simp [e1]; done) | (simp [e1]; omega) | (simp only [e1]; simp; done)))) | (refine n_brF ?_ ?_; (focus (first | (simp [e1]; done) | (simp [e1]; omega) | (simp only [e1]; simp; done)))) | refine n_must (by (with_reducible refine and_shape ?_) <;> kernel_rfl) ?_); (refine gs ?_)))
          refine n_build1 rfl rfl elemPast rfl rfl rfl rfl rfl rfl rfl rfl rfl ?_
          (refine gs ?_)
          refine gw ?_
          refine n_append 0 rfl rfl elemPast hitp hpp.1 hpp.2.1 hpp.2.2 rfl (by omega) rfl rfl rfl rfl rfl rfl (by omega) (by simp [Value.oneCell']) (by omega) (by omega) (show sh.flatMap Pa.l ++ _ = (sh ++ [(p0S i m e v)]).flatMap Pa.l by rw [List.flatMap_append]; simp [p0S, ew, el]) fun gp cp => ?_
          (refine gs ?_)
          refine gw ?_
          rw [← l1 (p0S i m e v)]
          refine n_again ⟨(i + 1, ((some ⟨gp, 0, none⟩, cp), (eo, ec)), y2, A2, G2), ⟨by dsimp only; omega, by dsimp only; rw [hn2]; exact hks2, hin2, hng2⟩, by dsimp only; omega, ?_, ?_⟩
          · dsimp only
            rw [hn2]
            exact (by (repeat (first | exact trivial | refine ⟨⟨rfl, rfl⟩, ?_⟩ | refine ⟨⟨rfl, congrArg (SV.int .i64) ei⟩, ?_⟩)))
          · dsimp only
            rw [hn2]
            exact ⟨_, rfl⟩
        by_cases e60 : e = 60 ∧ m.k ≠ 8
        · obtain ⟨e60, k8⟩ := e60
          have hn2 : storyT l (i + 1) = ⟨sh ++ [p0S i m e v], sfx, shold + 1, D1⟩ := by rw [hnx, if_pos (by simp [errS, e60, k8])]
          (repeat ((first | refine n_must rfl ?_ | refine n_chk (drawF_ok (by decide +kernel)) ?_ | refine n_same rfl ?_ | ((first | refine n_must ?_ ?_ | refine n_brT ?_ ?_); (focus (first | (simp [e60, k8]; done) | (simp [e60, k8]; omega) | (simp only [e60, k8]; simp; done)))) | (refine n_brF ?_ ?_; (focus (first | (simp [e60, k8]; done) | (simp [e60, k8]; omega) | (simp only [e60, k8]; simp; done)))) | refine n_must (by (with_reducible refine and_shape ?_) <;> kernel_rfl) ?_); (refine gs ?_)))
          refine n_build1 rfl rfl elemPast rfl rfl rfl rfl rfl rfl rfl rfl rfl ?_
          (refine gs ?_)
          refine gw ?_
          refine n_append 0 rfl rfl elemPast hitp hpp.1 hpp.2.1 hpp.2.2 rfl (by omega) rfl rfl rfl rfl rfl rfl (by omega) (by simp [Value.oneCell']) (by omega) (by omega) (show sh.flatMap Pa.l ++ _ = (sh ++ [(p0S i m e v)]).flatMap Pa.l by rw [List.flatMap_append]; simp [p0S, ew, el]) fun gp cp => ?_
          (refine gs ?_)
          refine gw ?_
          rw [← l1 (p0S i m e v)]
          refine n_again ⟨(i + 1, ((some ⟨gp, 0, none⟩, cp), (eo, ec)), y2, A2, G2), ⟨by dsimp only; omega, by dsimp only; rw [hn2]; exact hks2, hin2, hng2⟩, by dsimp only; omega, ?_, ?_⟩
          · dsimp only
            rw [hn2]
            exact (by (repeat (first | exact trivial | refine ⟨⟨rfl, rfl⟩, ?_⟩ | refine ⟨⟨rfl, congrArg (SV.int .i64) ei⟩, ?_⟩)))
          · dsimp only
            rw [hn2]
            exact ⟨_, rfl⟩
        have hE : errS e m.k = false := by simp only [errS, decide_eq_false_iff_not]; omega
        have hgo : ∀ X : Pa, p1S i m e v = X → storyT l (i + 1) = ⟨sh ++ [X], sfx ++ [efS i m e v], shold + 1, D1⟩ := fun X hX => by rw [hnx, if_neg (by rw [hE]; simp), hX]
        by_cases e60' : e = 60
        · have k8 : m.k = 8 := by omega
          (repeat ((first | refine n_must rfl ?_ | refine n_chk (drawF_ok (by decide +kernel)) ?_ | refine n_same rfl ?_ | ((first | refine n_must ?_ ?_ | refine n_brT ?_ ?_); (focus (first | (simp [e1, e60', k8]; done) | (simp [e1, e60', k8]; omega) | (simp only [e1, e60', k8]; simp; done)))) | (refine n_brF ?_ ?_; (focus (first | (simp [e1, e60', k8]; done) | (simp [e1, e60', k8]; omega) | (simp only [e1, e60', k8]; simp; done)))) | refine n_must (by (with_reducible refine and_shape ?_) <;> kernel_rfl) ?_); (refine gs ?_)))
          refine n_build1 rfl rfl elemEff rfl rfl rfl rfl rfl rfl rfl rfl rfl ?_
          (refine gs ?_)
          refine gw ?_
          refine n_append 1 rfl rfl elemEff hite hpe.1 hpe.2.1 hpe.2.2 rfl (by omega) rfl rfl rfl rfl rfl rfl (by omega) (by simp [Value.oneCell']) (by omega) (by omega) (show sfx.flatMap Ef.l ++ _ = (sfx ++ [efS i m e v]).flatMap Ef.l by rw [List.flatMap_append]; simp [efS, eat]) fun ge ce => ?_
          (refine gs ?_)
          refine gw ?_
          rw [← l2 (efS i m e v)]
          refine n_ldI (.bool m.lost) rfl rfl (fun _ w1 _ hI1 => load_cell aggMvLost (c6 hI1.frm)) ?_
          (refine gs ?_)
          by_cases hlo : m.lost = true
          · have hn2 := hgo _ (show p1S i m e v = { p0S i m e v with er := 111, va := 0 } by unfold p1S; rw [if_pos hlo])
            (repeat ((first | refine n_must rfl ?_ | refine n_chk (drawF_ok (by decide +kernel)) ?_ | refine n_same rfl ?_ | ((first | refine n_must ?_ ?_ | refine n_brT ?_ ?_); (focus (first | (simp [hlo]; done) | (simp [hlo]; omega) | (simp only [hlo]; simp; done)))) | (refine n_brF ?_ ?_; (focus (first | (simp [hlo]; done) | (simp [hlo]; omega) | (simp only [hlo]; simp; done)))) | refine n_must (by (with_reducible refine and_shape ?_) <;> kernel_rfl) ?_); (refine gs ?_)))
            refine n_build1 rfl rfl elemPast rfl rfl rfl rfl rfl rfl rfl rfl rfl ?_
            (refine gs ?_)
            refine gw ?_
            refine n_append 0 rfl rfl elemPast hitp hpp.1 hpp.2.1 hpp.2.2 rfl (by omega) rfl rfl rfl rfl rfl rfl (by omega) (by simp [Value.oneCell']) (by omega) (by omega) (show sh.flatMap Pa.l ++ _ = (sh ++ [{ p0S i m e v with er := 111, va := 0 }]).flatMap Pa.l by rw [List.flatMap_append]; simp [p0S, ew, el]) fun gp cp => ?_
            (refine gs ?_)
            refine gw ?_
            rw [← l1 { p0S i m e v with er := 111, va := 0 }]
            refine n_again ⟨(i + 1, ((some ⟨gp, 0, none⟩, cp), (some ⟨ge, 0, none⟩, ce)), y2, A2, G2), ⟨by dsimp only; omega, by dsimp only; rw [hn2]; exact hks2, hin2, hng2⟩, by dsimp only; omega, ?_, ?_⟩
            · dsimp only
              rw [hn2]
              exact (by (repeat (first | exact trivial | refine ⟨⟨rfl, rfl⟩, ?_⟩ | refine ⟨⟨rfl, congrArg (SV.int .i64) ei⟩, ?_⟩)))
            · dsimp only
              rw [hn2]
              exact ⟨_, rfl⟩
          · (repeat ((first | refine n_must rfl ?_ | refine n_chk (drawF_ok (by decide +kernel)) ?_ | refine n_same rfl ?_ | ((first | refine n_must ?_ ?_ | refine n_brT ?_ ?_); (focus (first | (simp [hlo]; done) | (simp [hlo]; omega) | (simp only [hlo]; simp; done)))) | (refine n_brF ?_ ?_; (focus (first | (simp [hlo]; done) | (simp [hlo]; omega) | (simp only [hlo]; simp; done)))) | refine n_must (by (with_reducible refine and_shape ?_) <;> kernel_rfl) ?_); (refine gs ?_)))
            refine n_ldI (.int .i64 m.late) rfl rfl (fun _ w1 _ hI1 => load_cell aggInt (c5 hI1.frm)) ?_
            (refine gs ?_)
            by_cases hod : andI .i64 m.late 1 = 1
            · have hn2 := hgo _ (show p1S i m e v = { p0S i m e v with to := -1, er := 0, va := 0 } by unfold p1S; rw [if_neg hlo, if_pos hod])
              (repeat ((first | refine n_must rfl ?_ | refine n_chk (drawF_ok (by decide +kernel)) ?_ | refine n_same rfl ?_ | ((first | refine n_must ?_ ?_ | refine n_brT ?_ ?_); (focus (first | (simp [hod]; done) | (simp [hod]; omega) | (simp only [hod]; simp; done)))) | (refine n_brF ?_ ?_; (focus (first | (simp [hod]; done) | (simp [hod]; omega) | (simp only [hod]; simp; done)))) | refine n_must (by (with_reducible refine and_shape ?_) <;> kernel_rfl) ?_); (refine gs ?_)))
              refine n_build1 rfl rfl elemPast rfl rfl rfl rfl rfl rfl rfl rfl rfl ?_
              (refine gs ?_)
              refine gw ?_
              refine n_append 0 rfl rfl elemPast hitp hpp.1 hpp.2.1 hpp.2.2 rfl (by omega) rfl rfl rfl rfl rfl rfl (by omega) (by simp [Value.oneCell']) (by omega) (by omega) (show sh.flatMap Pa.l ++ _ = (sh ++ [{ p0S i m e v with to := -1, er := 0, va := 0 }]).flatMap Pa.l by rw [List.flatMap_append]; simp [p0S, ew, el]) fun gp cp => ?_
              (refine gs ?_)
              refine gw ?_
              rw [← l1 { p0S i m e v with to := -1, er := 0, va := 0 }]
              refine n_again ⟨(i + 1, ((some ⟨gp, 0, none⟩, cp), (some ⟨ge, 0, none⟩, ce)), y2, A2, G2), ⟨by dsimp only; omega, by dsimp only; rw [hn2]; exact hks2, hin2, hng2⟩, by dsimp only; omega, ?_, ?_⟩
              · dsimp only
                rw [hn2]
                exact (by (repeat (first | exact trivial | refine ⟨⟨rfl, rfl⟩, ?_⟩ | refine ⟨⟨rfl, congrArg (SV.int .i64) ei⟩, ?_⟩)))
              · dsimp only
                rw [hn2]
                exact ⟨_, rfl⟩
            · have hn2 := hgo _ (show p1S i m e v = p0S i m e v by unfold p1S; rw [if_neg hlo, if_neg hod])
              (repeat ((first | refine n_must rfl ?_ | refine n_chk (drawF_ok (by decide +kernel)) ?_ | refine n_same rfl ?_ | ((first | refine n_must ?_ ?_ | refine n_brT ?_ ?_); (focus (first | (simp [hod]; done) | (simp [hod]; omega) | (simp only [hod]; simp; done)))) | (refine n_brF ?_ ?_; (focus (first | (simp [hod]; done) | (simp [hod]; omega) | (simp only [hod]; simp; done)))) | refine n_must (by (with_reducible refine and_shape ?_) <;> kernel_rfl) ?_); (refine gs ?_)))
              refine n_build1 rfl rfl elemPast rfl rfl rfl rfl rfl rfl rfl rfl rfl ?_
              (refine gs ?_)
              refine gw ?_
              refine n_append 0 rfl rfl elemPast hitp hpp.1 hpp.2.1 hpp.2.2 rfl (by omega) rfl rfl rfl rfl rfl rfl (by omega) (by simp [Value.oneCell']) (by omega) (by omega) (show sh.flatMap Pa.l ++ _ = (sh ++ [(p0S i m e v)]).flatMap Pa.l by rw [List.flatMap_append]; simp [p0S, ew, el]) fun gp cp => ?_
              (refine gs ?_)
              refine gw ?_
              rw [← l1 (p0S i m e v)]
              refine n_again ⟨(i + 1, ((some ⟨gp, 0, none⟩, cp), (some ⟨ge, 0, none⟩, ce)), y2, A2, G2), ⟨by dsimp only; omega, by dsimp only; rw [hn2]; exact hks2, hin2, hng2⟩, by dsimp only; omega, ?_, ?_⟩
              · dsimp only
                rw [hn2]
                exact (by (repeat (first | exact trivial | refine ⟨⟨rfl, rfl⟩, ?_⟩ | refine ⟨⟨rfl, congrArg (SV.int .i64) ei⟩, ?_⟩)))
              · dsimp only
                rw [hn2]
                exact ⟨_, rfl⟩
        · (repeat ((first | refine n_must rfl ?_ | refine n_chk (drawF_ok (by decide +kernel)) ?_ | refine n_same rfl ?_ | ((first | refine n_must ?_ ?_ | refine n_brT ?_ ?_); (focus (first | (simp [e1, e60']; done) | (simp [e1, e60']; omega) | (simp only [e1, e60']; simp; done)))) | (refine n_brF ?_ ?_; (focus (first | (simp [e1, e60']; done) | (simp [e1, e60']; omega) | (simp only [e1, e60']; simp; done)))) | refine n_must (by (with_reducible refine and_shape ?_) <;> kernel_rfl) ?_); (refine gs ?_)))
          refine n_build1 rfl rfl elemEff rfl rfl rfl rfl rfl rfl rfl rfl rfl ?_
          (refine gs ?_)
          refine gw ?_
          refine n_append 1 rfl rfl elemEff hite hpe.1 hpe.2.1 hpe.2.2 rfl (by omega) rfl rfl rfl rfl rfl rfl (by omega) (by simp [Value.oneCell']) (by omega) (by omega) (show sfx.flatMap Ef.l ++ _ = (sfx ++ [efS i m e v]).flatMap Ef.l by rw [List.flatMap_append]; simp [efS, eat]) fun ge ce => ?_
          (refine gs ?_)
          refine gw ?_
          rw [← l2 (efS i m e v)]
          refine n_ldI (.bool m.lost) rfl rfl (fun _ w1 _ hI1 => load_cell aggMvLost (c6 hI1.frm)) ?_
          (refine gs ?_)
          by_cases hlo : m.lost = true
          · have hn2 := hgo _ (show p1S i m e v = { p0S i m e v with er := 111, va := 0 } by unfold p1S; rw [if_pos hlo])
            (repeat ((first | refine n_must rfl ?_ | refine n_chk (drawF_ok (by decide +kernel)) ?_ | refine n_same rfl ?_ | ((first | refine n_must ?_ ?_ | refine n_brT ?_ ?_); (focus (first | (simp [hlo]; done) | (simp [hlo]; omega) | (simp only [hlo]; simp; done)))) | (refine n_brF ?_ ?_; (focus (first | (simp [hlo]; done) | (simp [hlo]; omega) | (simp only [hlo]; simp; done)))) | refine n_must (by (with_reducible refine and_shape ?_) <;> kernel_rfl) ?_); (refine gs ?_)))
            refine n_build1 rfl rfl elemPast rfl rfl rfl rfl rfl rfl rfl rfl rfl ?_
            (refine gs ?_)
            refine gw ?_
            refine n_append 0 rfl rfl elemPast hitp hpp.1 hpp.2.1 hpp.2.2 rfl (by omega) rfl rfl rfl rfl rfl rfl (by omega) (by simp [Value.oneCell']) (by omega) (by omega) (show sh.flatMap Pa.l ++ _ = (sh ++ [{ p0S i m e v with er := 111, va := 0 }]).flatMap Pa.l by rw [List.flatMap_append]; simp [p0S, ew, el]) fun gp cp => ?_
            (refine gs ?_)
            refine gw ?_
            rw [← l1 { p0S i m e v with er := 111, va := 0 }]
            refine n_again ⟨(i + 1, ((some ⟨gp, 0, none⟩, cp), (some ⟨ge, 0, none⟩, ce)), y2, A2, G2), ⟨by dsimp only; omega, by dsimp only; rw [hn2]; exact hks2, hin2, hng2⟩, by dsimp only; omega, ?_, ?_⟩
            · dsimp only
              rw [hn2]
              exact (by (repeat (first | exact trivial | refine ⟨⟨rfl, rfl⟩, ?_⟩ | refine ⟨⟨rfl, congrArg (SV.int .i64) ei⟩, ?_⟩)))
            · dsimp only
              rw [hn2]
              exact ⟨_, rfl⟩
          · (repeat ((first | refine n_must rfl ?_ | refine n_chk (drawF_ok (by decide +kernel)) ?_ | refine n_same rfl ?_ | ((first | refine n_must ?_ ?_ | refine n_brT ?_ ?_); (focus (first | (simp [hlo]; done) | (simp [hlo]; omega) | (simp only [hlo]; simp; done)))) | (refine n_brF ?_ ?_; (focus (first | (simp [hlo]; done) | (simp [hlo]; omega) | (simp only [hlo]; simp; done)))) | refine n_must (by (with_reducible refine and_shape ?_) <;> kernel_rfl) ?_); (refine gs ?_)))
            refine n_ldI (.int .i64 m.late) rfl rfl (fun _ w1 _ hI1 => load_cell aggInt (c5 hI1.frm)) ?_
            (refine gs ?_)
            by_cases hod : andI .i64 m.late 1 = 1
            · have hn2 := hgo _ (show p1S i m e v = { p0S i m e v with to := -1, er := 0, va := 0 } by unfold p1S; rw [if_neg hlo, if_pos hod])
              (repeat ((first | refine n_must rfl ?_ | refine n_chk (drawF_ok (by decide +kernel)) ?_ | refine n_same rfl ?_ | ((first | refine n_must ?_ ?_ | refine n_brT ?_ ?_); (focus (first | (simp [hod]; done) | (simp [hod]; omega) | (simp only [hod]; simp; done)))) | (refine n_brF ?_ ?_; (focus (first | (simp [hod]; done) | (simp [hod]; omega) | (simp only [hod]; simp; done)))) | refine n_must (by (with_reducible refine and_shape ?_) <;> kernel_rfl) ?_); (refine gs ?_)))
              refine n_build1 rfl rfl elemPast rfl rfl rfl rfl rfl rfl rfl rfl rfl ?_
              (refine gs ?_)
              refine gw ?_
              refine n_append 0 rfl rfl elemPast hitp hpp.1 hpp.2.1 hpp.2.2 rfl (by omega) rfl rfl rfl rfl rfl rfl (by omega) (by simp [Value.oneCell']) (by omega) (by omega) (show sh.flatMap Pa.l ++ _ = (sh ++ [{ p0S i m e v with to := -1, er := 0, va := 0 }]).flatMap Pa.l by rw [List.flatMap_append]; simp [p0S, ew, el]) fun gp cp => ?_
              (refine gs ?_)
              refine gw ?_
              rw [← l1 { p0S i m e v with to := -1, er := 0, va := 0 }]
              refine n_again ⟨(i + 1, ((some ⟨gp, 0, none⟩, cp), (some ⟨ge, 0, none⟩, ce)), y2, A2, G2), ⟨by dsimp only; omega, by dsimp only; rw [hn2]; exact hks2, hin2, hng2⟩, by dsimp only; omega, ?_, ?_⟩
              · dsimp only
                rw [hn2]
                exact (by (repeat (first | exact trivial | refine ⟨⟨rfl, rfl⟩, ?_⟩ | refine ⟨⟨rfl, congrArg (SV.int .i64) ei⟩, ?_⟩)))
              · dsimp only
                rw [hn2]
                exact ⟨_, rfl⟩
            · have hn2 := hgo _ (show p1S i m e v = p0S i m e v by unfold p1S; rw [if_neg hlo, if_neg hod])
              (repeat ((first | refine n_must rfl ?_ | refine n_chk (drawF_ok (by decide +kernel)) ?_ | refine n_same rfl ?_ | ((first | refine n_must ?_ ?_ | refine n_brT ?_ ?_); (focus (first | (simp [hod]; done) | (simp [hod]; omega) | (simp only [hod]; simp; done)))) | (refine n_brF ?_ ?_; (focus (first | (simp [hod]; done) | (simp [hod]; omega) | (simp only [hod]; simp; done)))) | refine n_must (by (with_reducible refine and_shape ?_) <;> kernel_rfl) ?_); (refine gs ?_)))
              refine n_build1 rfl rfl elemPast rfl rfl rfl rfl rfl rfl rfl rfl rfl ?_
              (refine gs ?_)
              refine gw ?_
              refine n_append 0 rfl rfl elemPast hitp hpp.1 hpp.2.1 hpp.2.2 rfl (by omega) rfl rfl rfl rfl rfl rfl (by omega) (by simp [Value.oneCell']) (by omega) (by omega) (show sh.flatMap Pa.l ++ _ = (sh ++ [(p0S i m e v)]).flatMap Pa.l by rw [List.flatMap_append]; simp [p0S, ew, el]) fun gp cp => ?_
              (refine gs ?_)
              refine gw ?_
              rw [← l1 (p0S i m e v)]
              refine n_again ⟨(i + 1, ((some ⟨gp, 0, none⟩, cp), (some ⟨ge, 0, none⟩, ce)), y2, A2, G2), ⟨by dsimp only; omega, by dsimp only; rw [hn2]; exact hks2, hin2, hng2⟩, by dsimp only; omega, ?_, ?_⟩
              · dsimp only
                rw [hn2]
                exact (by (repeat (first | exact trivial | refine ⟨⟨rfl, rfl⟩, ?_⟩ | refine ⟨⟨rfl, congrArg (SV.int .i64) ei⟩, ?_⟩)))
              · dsimp only
                rw [hn2]
                exact ⟨_, rfl⟩
    · refine gw ?_
      (refine n_ldA (.int .i64 m.late) rfl (by first | exact trivial | rfl) rfl (fun _ w1 _ hI1 => load_cell aggInt (c5 hI1.frm)) ?_; (refine gs ?_))
      refine gw ?_
      (refine n_ldA (.int .i64 m.wait) rfl (by first | exact trivial | rfl) rfl (fun _ w1 _ hI1 => load_cell aggInt (c4 hI1.frm)) ?_; (refine gs ?_))
      refine gw ?_
      refine n_sameP (.int .i64 (withinI m.wait 12)) rfl rfl rfl (fun _ w1 hp1 hI1 => lwithin_ok m.wait 12 hmg.wait (by omega) (by omega) w1) ?_; (refine gs ?_)
      refine gw ?_
      (refine n_ldA (.int .i64 m.late) rfl (by first | exact trivial | rfl) rfl (fun _ w1 _ hI1 => load_cell aggInt (c5 hI1.frm)) ?_; (refine gs ?_))
      refine gw ?_
      refine n_sameP (.int .i64 (withinI m.late 12)) rfl rfl rfl (fun _ w1 hp1 hI1 => lwithin_ok m.late 12 hmg.late (by omega) (by omega) w1) ?_; (refine gs ?_)
      refine gw ?_
      by_cases e1 : e = 1
      · have hn2 : storyT l (i + 1) = ⟨sh ++ [p0S i m e v], sfx, shold + 1, D1⟩ := by rw [hnx, if_pos (by simp [errS, e1])]
        (repeat ((first | refine n_must rfl ?_ | refine n_chk (drawF_ok (by decide +kernel)) ?_ | refine n_same rfl ?_ | ((first | refine n_must ?_ ?_ | refine n_brT ?_ ?_); (focus (first | (simp [e1]; done) | (simp [e1]; omega) | (simp only [e1]; simp; done)))) | (refine n_brF ?_ ?_; (focus (first | (simp [e1]; done) | (simp [e1]; omega) | (simp only [e1]; simp; done)))) | refine n_must (by (with_reducible refine and_shape ?_) <;> kernel_rfl) ?_); (refine gs ?_)))
        refine n_build1 rfl rfl elemPast rfl rfl rfl rfl rfl rfl rfl rfl rfl ?_
        (refine gs ?_)
        refine gw ?_
        refine n_append 0 rfl rfl elemPast hitp hpp.1 hpp.2.1 hpp.2.2 rfl (by omega) rfl rfl rfl rfl rfl rfl (by omega) (by simp [Value.oneCell']) (by omega) (by omega) (show sh.flatMap Pa.l ++ _ = (sh ++ [(p0S i m e v)]).flatMap Pa.l by rw [List.flatMap_append]; simp [p0S, ew, el]) fun gp cp => ?_
        (refine gs ?_)
        refine gw ?_
        rw [← l1 (p0S i m e v)]
        refine n_again ⟨(i + 1, ((some ⟨gp, 0, none⟩, cp), (eo, ec)), y2, A2, G2), ⟨by dsimp only; omega, by dsimp only; rw [hn2]; exact hks2, hin2, hng2⟩, by dsimp only; omega, ?_, ?_⟩
        · dsimp only
          rw [hn2]
          exact (by (repeat (first | exact trivial | refine ⟨⟨rfl, rfl⟩, ?_⟩ | refine ⟨⟨rfl, congrArg (SV.int .i64) ei⟩, ?_⟩)))
        · dsimp only
          rw [hn2]
          exact ⟨_, rfl⟩
      by_cases e60 : e = 60 ∧ m.k ≠ 8
      · obtain ⟨e60, k8⟩ := e60
        have hn2 : storyT l (i + 1) = ⟨sh ++ [p0S i m e v], sfx, shold + 1, D1⟩ := by rw [hnx, if_pos (by simp [errS, e60, k8])]
        (repeat ((first | refine n_must rfl ?_ | refine n_chk (drawF_ok (by decide +kernel)) ?_ | refine n_same rfl ?_ | ((first | refine n_must ?_ ?_ | refine n_brT ?_ ?_); (focus (first | (simp [e60, k8]; done) | (simp [e60, k8]; omega) | (simp only [e60, k8]; simp; done)))) | (refine n_brF ?_ ?_; (focus (first | (simp [e60, k8]; done) | (simp [e60, k8]; omega) | (simp only [e60, k8]; simp; done)))) | refine n_must (by (with_reducible refine and_shape ?_) <;> kernel_rfl) ?_); (refine gs ?_)))
        refine n_build1 rfl rfl elemPast rfl rfl rfl rfl rfl rfl rfl rfl rfl ?_
        (refine gs ?_)
        refine gw ?_
        refine n_append 0 rfl rfl elemPast hitp hpp.1 hpp.2.1 hpp.2.2 rfl (by omega) rfl rfl rfl rfl rfl rfl (by omega) (by simp [Value.oneCell']) (by omega) (by omega) (show sh.flatMap Pa.l ++ _ = (sh ++ [(p0S i m e v)]).flatMap Pa.l by rw [List.flatMap_append]; simp [p0S, ew, el]) fun gp cp => ?_
        (refine gs ?_)
        refine gw ?_
        rw [← l1 (p0S i m e v)]
        refine n_again ⟨(i + 1, ((some ⟨gp, 0, none⟩, cp), (eo, ec)), y2, A2, G2), ⟨by dsimp only; omega, by dsimp only; rw [hn2]; exact hks2, hin2, hng2⟩, by dsimp only; omega, ?_, ?_⟩
        · dsimp only
          rw [hn2]
          exact (by (repeat (first | exact trivial | refine ⟨⟨rfl, rfl⟩, ?_⟩ | refine ⟨⟨rfl, congrArg (SV.int .i64) ei⟩, ?_⟩)))
        · dsimp only
          rw [hn2]
          exact ⟨_, rfl⟩
      have hE : errS e m.k = false := by simp only [errS, decide_eq_false_iff_not]; omega
      have hgo : ∀ X : Pa, p1S i m e v = X → storyT l (i + 1) = ⟨sh ++ [X], sfx ++ [efS i m e v], shold + 1, D1⟩ := fun X hX => by rw [hnx, if_neg (by rw [hE]; simp), hX]
      by_cases e60' : e = 60
      · have k8 : m.k = 8 := by omega
        (repeat ((first | refine n_must rfl ?_ | refine n_chk (drawF_ok (by decide +kernel)) ?_ | refine n_same rfl ?_ | ((first | refine n_must ?_ ?_ | refine n_brT ?_ ?_); (focus (first | (simp [e1, e60', k8]; done) | (simp [e1, e60', k8]; omega) | (simp only [e1, e60', k8]; simp; done)))) | (refine n_brF ?_ ?_; (focus (first | (simp [e1, e60', k8]; done) | (simp [e1, e60', k8]; omega) | (simp only [e1, e60', k8]; simp; done)))) | refine n_must (by (with_reducible refine and_shape ?_) <;> kernel_rfl) ?_); (refine gs ?_)))
        refine n_build1 rfl rfl elemEff rfl rfl rfl rfl rfl rfl rfl rfl rfl ?_
        (refine gs ?_)
        refine gw ?_
        refine n_append 1 rfl rfl elemEff hite hpe.1 hpe.2.1 hpe.2.2 rfl (by omega) rfl rfl rfl rfl rfl rfl (by omega) (by simp [Value.oneCell']) (by omega) (by omega) (show sfx.flatMap Ef.l ++ _ = (sfx ++ [efS i m e v]).flatMap Ef.l by rw [List.flatMap_append]; simp [efS, eat]) fun ge ce => ?_
        (refine gs ?_)
        refine gw ?_
        rw [← l2 (efS i m e v)]
        refine n_ldI (.bool m.lost) rfl rfl (fun _ w1 _ hI1 => load_cell aggMvLost (c6 hI1.frm)) ?_
        (refine gs ?_)
        by_cases hlo : m.lost = true
        · have hn2 := hgo _ (show p1S i m e v = { p0S i m e v with er := 111, va := 0 } by unfold p1S; rw [if_pos hlo])
          (repeat ((first | refine n_must rfl ?_ | refine n_chk (drawF_ok (by decide +kernel)) ?_ | refine n_same rfl ?_ | ((first | refine n_must ?_ ?_ | refine n_brT ?_ ?_); (focus (first | (simp [hlo]; done) | (simp [hlo]; omega) | (simp only [hlo]; simp; done)))) | (refine n_brF ?_ ?_; (focus (first | (simp [hlo]; done) | (simp [hlo]; omega) | (simp only [hlo]; simp; done)))) | refine n_must (by (with_reducible refine and_shape ?_) <;> kernel_rfl) ?_); (refine gs ?_)))
          refine n_build1 rfl rfl elemPast rfl rfl rfl rfl rfl rfl rfl rfl rfl ?_
          (refine gs ?_)
          refine gw ?_
          refine n_append 0 rfl rfl elemPast hitp hpp.1 hpp.2.1 hpp.2.2 rfl (by omega) rfl rfl rfl rfl rfl rfl (by omega) (by simp [Value.oneCell']) (by omega) (by omega) (show sh.flatMap Pa.l ++ _ = (sh ++ [{ p0S i m e v with er := 111, va := 0 }]).flatMap Pa.l by rw [List.flatMap_append]; simp [p0S, ew, el]) fun gp cp => ?_
          (refine gs ?_)
          refine gw ?_
          rw [← l1 { p0S i m e v with er := 111, va := 0 }]
          refine n_again ⟨(i + 1, ((some ⟨gp, 0, none⟩, cp), (some ⟨ge, 0, none⟩, ce)), y2, A2, G2), ⟨by dsimp only; omega, by dsimp only; rw [hn2]; exact hks2, hin2, hng2⟩, by dsimp only; omega, ?_, ?_⟩
          · dsimp only
            rw [hn2]
            exact (by (repeat (first | exact trivial | refine ⟨⟨rfl, rfl⟩, ?_⟩ | refine ⟨⟨rfl, congrArg (SV.int .i64) ei⟩, ?_⟩)))
          · dsimp only
            rw [hn2]
            exact ⟨_, rfl⟩
        · (repeat ((first | refine n_must rfl ?_ | refine n_chk (drawF_ok (by decide +kernel)) ?_ | refine n_same rfl ?_ | ((first | refine n_must ?_ ?_ | refine n_brT ?_ ?_); (focus (first | (simp [hlo]; done) | (simp [hlo]; omega) | (simp only [hlo]; simp; done)))) | (refine n_brF ?_ ?_; (focus (first | (simp [hlo]; done) | (simp [hlo]; omega) | (simp only [hlo]; simp; done)))) | refine n_must (by (with_reducible refine and_shape ?_) <;> kernel_rfl) ?_); (refine gs ?_)))
          refine n_ldI (.int .i64 m.late) rfl rfl (fun _ w1 _ hI1 => load_cell aggInt (c5 hI1.frm)) ?_
          (refine gs ?_)
          by_cases hod : andI .i64 m.late 1 = 1
          · have hn2 := hgo _ (show p1S i m e v = { p0S i m e v with to := -1, er := 0, va := 0 } by unfold p1S; rw [if_neg hlo, if_pos hod])
            (repeat ((first | refine n_must rfl ?_ | refine n_chk (drawF_ok (by decide +kernel)) ?_ | refine n_same rfl ?_ | ((first | refine n_must ?_ ?_ | refine n_brT ?_ ?_); (focus (first | (simp [hod]; done) | (simp [hod]; omega) | (simp only [hod]; simp; done)))) | (refine n_brF ?_ ?_; (focus (first | (simp [hod]; done) | (simp [hod]; omega) | (simp only [hod]; simp; done)))) | refine n_must (by (with_reducible refine and_shape ?_) <;> kernel_rfl) ?_); (refine gs ?_)))
            refine n_build1 rfl rfl elemPast rfl rfl rfl rfl rfl rfl rfl rfl rfl ?_
            (refine gs ?_)
            refine gw ?_
            refine n_append 0 rfl rfl elemPast hitp hpp.1 hpp.2.1 hpp.2.2 rfl (by omega) rfl rfl rfl rfl rfl rfl (by omega) (by simp [Value.oneCell']) (by omega) (by omega) (show sh.flatMap Pa.l ++ _ = (sh ++ [{ p0S i m e v with to := -1, er := 0, va := 0 }]).flatMap Pa.l by rw [List.flatMap_append]; simp [p0S, ew, el]) fun gp cp => ?_
            (refine gs ?_)
            refine gw ?_
            rw [← l1 { p0S i m e v with to := -1, er := 0, va := 0 }]
            refine n_again ⟨(i + 1, ((some ⟨gp, 0, none⟩, cp), (some ⟨ge, 0, none⟩, ce)), y2, A2, G2), ⟨by dsimp only; omega, by dsimp only; rw [hn2]; exact hks2, hin2, hng2⟩, by dsimp only; omega, ?_, ?_⟩
            · dsimp only
              rw [hn2]
              exact (by (repeat (first | exact trivial | refine ⟨⟨rfl, rfl⟩, ?_⟩ | refine ⟨⟨rfl, congrArg (SV.int .i64) ei⟩, ?_⟩)))
            · dsimp only
              rw [hn2]
              exact ⟨_, rfl⟩
          · have hn2 := hgo _ (show p1S i m e v = p0S i m e v by unfold p1S; rw [if_neg hlo, if_neg hod])
            (repeat ((first | refine n_must rfl ?_ | refine n_chk (drawF_ok (by decide +kernel)) ?_ | refine n_same rfl ?_ | ((first | refine n_must ?_ ?_ | refine n_brT ?_ ?_); (focus (first | (simp [hod]; done) | (simp [hod]; omega) | (simp only [hod]; simp; done)))) | (refine n_brF ?_ ?_; (focus (first | (simp [hod]; done) | (simp [hod]; omega) | (simp only [hod]; simp; done)))) | refine n_must (by (with_reducible refine and_shape ?_) <;> kernel_rfl) ?_); (refine gs ?_)))
            refine n_build1 rfl rfl elemPast rfl rfl rfl rfl rfl rfl rfl rfl rfl ?_
            (refine gs ?_)
            refine gw ?_
            refine n_append 0 rfl rfl elemPast hitp hpp.1 hpp.2.1 hpp.2.2 rfl (by omega) rfl rfl rfl rfl rfl rfl (by omega) (by simp [Value.oneCell']) (by omega) (by omega) (show sh.flatMap Pa.l ++ _ = (sh ++ [(p0S i m e v)]).flatMap Pa.l by rw [List.flatMap_append]; simp [p0S, ew, el]) fun gp cp => ?_
            (refine gs ?_)
            refine gw ?_
            rw [← l1 (p0S i m e v)]
            refine n_again ⟨(i + 1, ((some ⟨gp, 0, none⟩, cp), (some ⟨ge, 0, none⟩, ce)), y2, A2, G2), ⟨by dsimp only; omega, by dsimp only; rw [hn2]; exact hks2, hin2, hng2⟩, by dsimp only; omega, ?_, ?_⟩
            · dsimp only
              rw [hn2]
              exact (by (repeat (first | exact trivial | refine ⟨⟨rfl, rfl⟩, ?_⟩ | refine ⟨⟨rfl, congrArg (SV.int .i64) ei⟩, ?_⟩)))
            · dsimp only
              rw [hn2]
              exact ⟨_, rfl⟩
      · (repeat ((first | refine n_must rfl ?_ | refine n_chk (drawF_ok (by decide +kernel)) ?_ | refine n_same rfl ?_ | ((first | refine n_must ?_ ?_ | refine n_brT ?_ ?_); (focus (first | (simp [e1, e60']; done) | (simp [e1, e60']; omega) | (simp only [e1, e60']; simp; done)))) | (refine n_brF ?_ ?_; (focus (first | (simp [e1, e60']; done) | (simp [e1, e60']; omega) | (simp only [e1, e60']; simp; done)))) | refine n_must (by (with_reducible refine and_shape ?_) <;> kernel_rfl) ?_); (refine gs ?_)))
        refine n_build1 rfl rfl elemEff rfl rfl rfl rfl rfl rfl rfl rfl rfl ?_
        (refine gs ?_)
        refine gw ?_
        refine n_append 1 rfl rfl elemEff hite hpe.1 hpe.2.1 hpe.2.2 rfl (by omega) rfl rfl rfl rfl rfl rfl (by omega) (by simp [Value.oneCell']) (by omega) (by omega) (show sfx.flatMap Ef.l ++ _ = (sfx ++ [efS i m e v]).flatMap Ef.l by rw [List.flatMap_append]; simp [efS, eat]) fun ge ce => ?_
        (refine gs ?_)
        refine gw ?_
        rw [← l2 (efS i m e v)]
        refine n_ldI (.bool m.lost) rfl rfl (fun _ w1 _ hI1 => load_cell aggMvLost (c6 hI1.frm)) ?_
        (refine gs ?_)
        by_cases hlo : m.lost = true
        · have hn2 := hgo _ (show p1S i m e v = { p0S i m e v with er := 111, va := 0 } by unfold p1S; rw [if_pos hlo])
          (repeat ((first | refine n_must rfl ?_ | refine n_chk (drawF_ok (by decide +kernel)) ?_ | refine n_same rfl ?_ | ((first | refine n_must ?_ ?_ | refine n_brT ?_ ?_); (focus (first | (simp [hlo]; done) | (simp [hlo]; omega) | (simp only [hlo]; simp; done)))) | (refine n_brF ?_ ?_; (focus (first | (simp [hlo]; done) | (simp [hlo]; omega) | (simp only [hlo]; simp; done)))) | refine n_must (by (with_reducible refine and_shape ?_) <;> kernel_rfl) ?_); (refine gs ?_)))
          refine n_build1 rfl rfl elemPast rfl rfl rfl rfl rfl rfl rfl rfl rfl ?_
          (refine gs ?_)
          refine gw ?_
          refine n_append 0 rfl rfl elemPast hitp hpp.1 hpp.2.1 hpp.2.2 rfl (by omega) rfl rfl rfl rfl rfl rfl (by omega) (by simp [Value.oneCell']) (by omega) (by omega) (show sh.flatMap Pa.l ++ _ = (sh ++ [{ p0S i m e v with er := 111, va := 0 }]).flatMap Pa.l by rw [List.flatMap_append]; simp [p0S, ew, el]) fun gp cp => ?_
          (refine gs ?_)
          refine gw ?_
          rw [← l1 { p0S i m e v with er := 111, va := 0 }]
          refine n_again ⟨(i + 1, ((some ⟨gp, 0, none⟩, cp), (some ⟨ge, 0, none⟩, ce)), y2, A2, G2), ⟨by dsimp only; omega, by dsimp only; rw [hn2]; exact hks2, hin2, hng2⟩, by dsimp only; omega, ?_, ?_⟩
          · dsimp only
            rw [hn2]
            exact (by (repeat (first | exact trivial | refine ⟨⟨rfl, rfl⟩, ?_⟩ | refine ⟨⟨rfl, congrArg (SV.int .i64) ei⟩, ?_⟩)))
          · dsimp only
            rw [hn2]
            exact ⟨_, rfl⟩
        · (repeat ((first | refine n_must rfl ?_ | refine n_chk (drawF_ok (by decide +kernel)) ?_ | refine n_same rfl ?_ | ((first | refine n_must ?_ ?_ | refine n_brT ?_ ?_); (focus (first | (simp [hlo]; done) | (simp [hlo]; omega) | (simp only [hlo]; simp; done)))) | (refine n_brF ?_ ?_; (focus (first | (simp [hlo]; done) | (simp [hlo]; omega) | (simp only [hlo]; simp; done)))) | refine n_must (by (with_reducible refine and_shape ?_) <;> kernel_rfl) ?_); (refine gs ?_)))
          refine n_ldI (.int .i64 m.late) rfl rfl (fun _ w1 _ hI1 => load_cell aggInt (c5 hI1.frm)) ?_
          (refine gs ?_)
          by_cases hod : andI .i64 m.late 1 = 1
          · have hn2 := hgo _ (show p1S i m e v = { p0S i m e v with to := -1, er := 0, va := 0 } by unfold p1S; rw [if_neg hlo, if_pos hod])
            (repeat ((first | refine n_must rfl ?_ | refine n_chk (drawF_ok (by decide +kernel)) ?_ | refine n_same rfl ?_ | ((first | refine n_must ?_ ?_ | refine n_brT ?_ ?_); (focus (first | (simp [hod]; done) | (simp [hod]; omega) | (simp only [hod]; simp; done)))) | (refine n_brF ?_ ?_; (focus (first | (simp [hod]; done) | (simp [hod]; omega) | (simp only [hod]; simp; done)))) | refine n_must (by (with_reducible refine and_shape ?_) <;> kernel_rfl) ?_); (refine gs ?_)))
            refine n_build1 rfl rfl elemPast rfl rfl rfl rfl rfl rfl rfl rfl rfl ?_
            (refine gs ?_)
            refine gw ?_
            refine n_append 0 rfl rfl elemPast hitp hpp.1 hpp.2.1 hpp.2.2 rfl (by omega) rfl rfl rfl rfl rfl rfl (by omega) (by simp [Value.oneCell']) (by omega) (by omega) (show sh.flatMap Pa.l ++ _ = (sh ++ [{ p0S i m e v with to := -1, er := 0, va := 0 }]).flatMap Pa.l by rw [List.flatMap_append]; simp [p0S, ew, el]) fun gp cp => ?_
            (refine gs ?_)
            refine gw ?_
            rw [← l1 { p0S i m e v with to := -1, er := 0, va := 0 }]
            refine n_again ⟨(i + 1, ((some ⟨gp, 0, none⟩, cp), (some ⟨ge, 0, none⟩, ce)), y2, A2, G2), ⟨by dsimp only; omega, by dsimp only; rw [hn2]; exact hks2, hin2, hng2⟩, by dsimp only; omega, ?_, ?_⟩
            · dsimp only
              rw [hn2]
              exact (by (repeat (first | exact trivial | refine ⟨⟨rfl, rfl⟩, ?_⟩ | refine ⟨⟨rfl, congrArg (SV.int .i64) ei⟩, ?_⟩)))
            · dsimp only
              rw [hn2]
              exact ⟨_, rfl⟩
          · have hn2 := hgo _ (show p1S i m e v = p0S i m e v by unfold p1S; rw [if_neg hlo, if_neg hod])
            (repeat ((first | refine n_must rfl ?_ | refine n_chk (drawF_ok (by decide +kernel)) ?_ | refine n_same rfl ?_ | ((first | refine n_must ?_ ?_ | refine n_brT ?_ ?_); (focus (first | (simp [hod]; done) | (simp [hod]; omega) | (simp only [hod]; simp; done)))) | (refine n_brF ?_ ?_; (focus (first | (simp [hod]; done) | (simp [hod]; omega) | (simp only [hod]; simp; done)))) | refine n_must (by (with_reducible refine and_shape ?_) <;> kernel_rfl) ?_); (refine gs ?_)))
            refine n_build1 rfl rfl elemPast rfl rfl rfl rfl rfl rfl rfl rfl rfl ?_
            (refine gs ?_)
            refine gw ?_
            refine n_append 0 rfl rfl elemPast hitp hpp.1 hpp.2.1 hpp.2.2 rfl (by omega) rfl rfl rfl rfl rfl rfl (by omega) (by simp [Value.oneCell']) (by omega) (by omega) (show sh.flatMap Pa.l ++ _ = (sh ++ [(p0S i m e v)]).flatMap Pa.l by rw [List.flatMap_append]; simp [p0S, ew, el]) fun gp cp => ?_
            (refine gs ?_)
            refine gw ?_
            rw [← l1 (p0S i m e v)]
            refine n_again ⟨(i + 1, ((some ⟨gp, 0, none⟩, cp), (some ⟨ge, 0, none⟩, ce)), y2, A2, G2), ⟨by dsimp only; omega, by dsimp only; rw [hn2]; exact hks2, hin2, hng2⟩, by dsimp only; omega, ?_, ?_⟩
            · dsimp only
              rw [hn2]
              exact (by (repeat (first | exact trivial | refine ⟨⟨rfl, rfl⟩, ?_⟩ | refine ⟨⟨rfl, congrArg (SV.int .i64) ei⟩, ?_⟩)))
            · dsimp only
              rw [hn2]
              exact ⟨_, rfl⟩
  · obtain rfl : i = min l.length most := by omega
    by_cases h1 : min l.length most < l.length
    · have h2 : ¬ min l.length most < most := by omega
      (repeat ((first | refine n_must rfl ?_ | refine n_chk (drawF_ok (by decide +kernel)) ?_ | refine n_same rfl ?_ | ((first | refine n_must ?_ ?_ | refine n_brT ?_ ?_); (focus (first | (simp [h1, h2]; done) | (simp [h1, h2]; omega) | (simp only [h1, h2]; simp; done)))) | (refine n_brF ?_ ?_; (focus (first | (simp [h1, h2]; done) | (simp [h1, h2]; omega) | (simp only [h1, h2]; simp; done)))) | refine n_must (by (with_reducible refine and_shape ?_) <;> kernel_rfl) ?_); (refine gs ?_)))
      refine n_exit rfl ?_
      (refine gs ?_)
      refine n_ret0 rfl rfl fun ids' w' hp hI' => ⟨((ho, hc), (eo, ec)), rfl, trivial, hI'.frm, ⟨hI'.res 0 rfl rfl, hI'.res 1 rfl rfl, hI'.res_res 0 1 (by decide) rfl rfl rfl rfl⟩, fun x hx => ?_, fun x hx => ?_⟩
      · rcases List.mem_append.1 hx with hx | hx
        · exact hI'.res_new 0 rfl rfl rfl (by simp) x hx
        · exact hI'.res_new 1 rfl rfl rfl (by simp) x hx
      · rcases List.mem_append.1 hx with hx | hx
        · exact hI'.resLt 0 rfl rfl x hx
        · exact hI'.resLt 1 rfl rfl x hx
    · (repeat ((first | refine n_must rfl ?_ | refine n_chk (drawF_ok (by decide +kernel)) ?_ | refine n_same rfl ?_ | ((first | refine n_must ?_ ?_ | refine n_brT ?_ ?_); (focus (first | (simp [h1]; done) | (simp [h1]; omega) | (simp only [h1]; simp; done)))) | (refine n_brF ?_ ?_; (focus (first | (simp [h1]; done) | (simp [h1]; omega) | (simp only [h1]; simp; done)))) | refine n_must (by (with_reducible refine and_shape ?_) <;> kernel_rfl) ?_); (refine gs ?_)))
      refine n_exit rfl ?_
      (refine gs ?_)
      refine n_ret0 rfl rfl fun ids' w' hp hI' => ⟨((ho, hc), (eo, ec)), rfl, trivial, hI'.frm, ⟨hI'.res 0 rfl rfl, hI'.res 1 rfl rfl, hI'.res_res 0 1 (by decide) rfl rfl rfl rfl⟩, fun x hx => ?_, fun x hx => ?_⟩
      · rcases List.mem_append.1 hx with hx | hx
        · exact hI'.res_new 0 rfl rfl rfl (by simp) x hx
        · exact hI'.res_new 1 rfl rfl rfl (by simp) x hx
      · rcases List.mem_append.1 hx with hx | hx
        · exact hI'.resLt 0 rfl rfl x hx
        · exact hI'.resLt 1 rfl rfl x hx
end Go.Proofs.Ytfcbcgjgkleonaa
