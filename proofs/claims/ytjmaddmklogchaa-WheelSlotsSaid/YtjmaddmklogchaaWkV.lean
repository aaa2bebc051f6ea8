/- Chapter 5's law: WheelSlots. -/
import Derived.Test.YtjmaddmklogchaaWkU
import Derived.Test.YtjmaddmklogchaaWkQ
set_option maxRecDepth 100000
set_option linter.unusedSimpArgs false
set_option linter.unusedVariables false
set_option maxHeartbeats 8000000
namespace Go.Proofs.Ytjmaddmklogchaa
open Go.RowKit

theorem tick_as {p N : Nat} {W : Wh} {a : Ac} {s : Ws} {w : World} (hW : W.ok N) (hs : W.s = s) (hN : N ≤ 100000) (ha : i64 a.a) (hR : (whRes p W).R w) :
    Calls Try.prog 13 #[pV p, a.val] w fun e w' => ∃ y : Wh × Option Addr × Nat, e = .returned (.tuple #[.int .i64 (tickF s a).2.1, .slice y.2.1 (tickF s a).2.2.length y.2.2]) ∧ (y.1.ok (N + 1) ∧ y.1.s = (tickF s a).1) ∧
      Post (whRes p W) ((whRes p y.1).both (tRow y.2.1 (tickF s a).2.2.length y.2.2 (tms (tickF s a).2.2))) w w' := by
  subst hs
  exact (ticked_ok hW hN ha hR).mono fun e w' ⟨y, t⟩ => ⟨y, t.e, ⟨t.st.1, t.st.2.1⟩, t.post⟩
theorem tick_le {N : Nat} {s : Ws} {a : Ac} (hs : s.ok N) : (tickF s a).2.2.length ≤ N := by
  have hAl := hs.len
  have hdl : s.due.length ≤ N := Nat.le_trans (List.length_filter_le _ _) hAl
  have hll : (listT s.A).length ≤ N := by rw [(listT_ok hs.up).1.length_eq]; exact hAl
  unfold tickF
  split
  · simp
  split
  · simp
  split
  · exact hdl
  split
  · exact hll
  · simp
structure Sl (i : Nat) (A B C : Wh) : Prop where
  a : A.ok i
  b : B.ok i
  c : C.ok i
  e : B.s = A.s
abbrev slM (p q r : Nat) (A B C : Wh) : Mem := [⟨58, [.res (whRes p A)], true⟩, ⟨58, [.res (whRes q B)], true⟩, ⟨58, [.res (whRes r C)], true⟩]
theorem WheelSlots_ok {one other : Int} {o o2 : Option Addr} {S T : List Ac} {cap cap2 : Nat} {w : World} (h1 : i64 one) (h2 : i64 other) (hR : (acRes o S).R w) (hS : ∀ a ∈ S, i64 a.a) (hl : S.length ≤ 9223372036854775806)
    (hR2 : (acRes o2 T).R w) (hT : ∀ a ∈ T, i64 a.a) (hl2 : T.length ≤ 9223372036854775806) :
    Calls Try.prog 7 #[.int .i64 one, .int .i64 other, .slice o S.length cap, .slice o2 T.length cap2] w fun e w' => e = .returned (.bool true) ∧ Frm [] w w' := by
  have hI := Inv.nil (P := Try.prog) (N := 121) (S := []) (os := []) w
  have hS1 : ∀ w1, Frm [] w w1 → (acRes o S).R w1 := fun w1 hf => (acRes o S).stable _ _ (fun k hk => hf.block k (rd_lt hR k hk) (by simp)) hR
  have hT1 : ∀ w1, Frm [] w w1 → (acRes o2 T).R w1 := fun w1 hf => (acRes o2 T).stable _ _ (fun k hk => hf.block k (rd_lt hR2 k hk) (by simp)) hR2
  generalize hn : withinF one 64 = n
  have bn : 1 ≤ n ∧ n ≤ 64 := hn ▸ within_le (by omega)
  generalize hm : withinF other 64 = m
  have bm : 1 ≤ m ∧ m ≤ 64 := hm ▸ within_le (by omega)
  refine calls_sm (cx 121 [] [] w) (vals := [.int .i64 one, .int .i64 other, .raw (.slice o S.length cap), .raw (.slice o2 T.length cap2)]) mixed Try.func7 rfl rfl rfl hI rfl (st rfl ?_); conv => arg 3; whnf
  refine gw ?_
  refine n_sameP (.bool true) rfl rfl rfl (fun _ w1 hp1 hI1 => able_ok w1) ?_; (refine gs ?_)
  refine gw ?_
  refine n_sameP (.int .i64 n) rfl rfl rfl (fun _ w1 hp1 hI1 => hn ▸ within_ok one 64 h1 (by omega) (by omega) w1) ?_; (refine gs ?_)
  refine gw ?_
  refine n_callN (fun y : Nat × Nat => whRes y.1 (Wh.new (n).toNat y.2)) 58 (fun y => .tup [.raw (pV y.1), .int .i64 0]) (fun y => .tuple #[pV y.1, .int .i64 0]) (fun _ => True) rfl rfl rfl (fun _ => rfl) (fun w1 hI1 => wNew_ok n w1 bn) ?_
  rintro ⟨p, pb⟩ _ _
  dsimp only
  (refine gs ?_)
  refine gw ?_
  refine n_sameP (.int .i64 m) rfl rfl rfl (fun _ w1 hp1 hI1 => hm ▸ within_ok other 64 h2 (by omega) (by omega) w1) ?_; (refine gs ?_)
  refine gw ?_
  refine n_callN (fun y : Nat × Nat => whRes y.1 (Wh.new (m).toNat y.2)) 58 (fun y => .tup [.raw (pV y.1), .int .i64 0]) (fun y => .tuple #[pV y.1, .int .i64 0]) (fun _ => True) rfl rfl rfl (fun _ => rfl) (fun w1 hI1 => wNew_ok m w1 bm) ?_
  rintro ⟨q, qb⟩ _ _
  dsimp only
  (refine gs ?_)
  refine gw ?_
  refine n_sameP (.int .i64 n) rfl rfl rfl (fun _ w1 hp1 hI1 => hn ▸ within_ok one 64 h1 (by omega) (by omega) w1) ?_; (refine gs ?_)
  refine gw ?_
  refine n_callN (fun y : Nat × Nat => whRes y.1 (Wh.new (n).toNat y.2)) 58 (fun y => .tup [.raw (pV y.1), .int .i64 0]) (fun y => .tuple #[pV y.1, .int .i64 0]) (fun _ => True) rfl rfl rfl (fun _ => rfl) (fun w1 hI1 => wNew_ok n w1 bn) ?_
  rintro ⟨r, rb⟩ _ _
  dsimp only
  (refine gs ?_)
  refine gw ?_
  refine n_loop (σ := Nat × Wh × Wh × Wh) (fun t => [(2, .raw (.slice o S.length cap)), (3, .raw (.slice o2 T.length cap2)), (9, .raw (pV p)), (11, .raw (pV q)), (13, .raw (pV r)), (15, .int .i64 (t.1 : Nat))]) (fun t => slM p q r t.2.1 t.2.2.1 t.2.2.2) (fun t => t.1 ≤ S.length ∧ t.1 ≤ 400 ∧ Sl t.1 t.2.1 t.2.2.1 t.2.2.2) (fun t => S.length - t.1) (0, Wh.new n.toNat pb, Wh.new m.toNat qb, Wh.new n.toNat rb) mixed ⟨by dsimp only; omega, by dsimp only; omega, ⟨new_ok (by omega), new_ok (by omega), new_ok (by omega), rfl⟩⟩ (fun _ _ => rfl) rfl (by (repeat (first | exact trivial | refine ⟨⟨rfl, rfl⟩, ?_⟩))) (fun s _ => ⟨by (repeat (first | exact trivial | refine ⟨⟨_, rfl⟩, ?_⟩)), by (repeat (first | exact trivial | refine ⟨⟨_, rfl⟩, ?_⟩))⟩) fun t ht => ?_
  obtain ⟨i, A, B, C⟩ := t
  obtain ⟨hi1, hi4, hA, hB, hC, hE⟩ := ht
  dsimp only at hi1 hi4 hA hB hC hE ⊢
  (refine gs ?_)
  by_cases hil : i < S.length
  · by_cases h4 : i < 400
    · have ei : IntKind.i64.wrap ((i : Int) + 1) = ((i + 1 : Nat) : Int) := by rw [w64 (by omega) (by omega)]; simp
      have h4' : (i : Int) < 400 := by omega
      have hx : S[i]? = some S[i] := List.getElem?_eq_getElem _
      obtain ⟨ad, rfl⟩ := rd_some ac_len (by omega) hR (show 0 < S.length by omega)
      have hg := hS _ (List.getElem_mem hil)
      generalize S[i] = x at hx hg
      have htl := tick_le (a := x) hA.s
      (repeat ((first | refine n_must rfl ?_ | refine n_chk (drawF_ok (by decide +kernel)) ?_ | refine n_same rfl ?_ | ((first | refine n_must ?_ ?_ | refine n_brT ?_ ?_); (focus (first | (simp [hil, h4']; done) | (simp [hil, h4']; omega) | (simp only [hil, h4']; simp; done)))) | (refine n_brF ?_ ?_; (focus (first | (simp [hil, h4']; done) | (simp [hil, h4']; omega) | (simp only [hil, h4']; simp; done)))) | refine n_must (by (with_reducible refine and_shape ?_) <;> kernel_rfl) ?_); (refine gs ?_)))
      (refine n_ldA (.agg x.sv) rfl (by first | exact trivial | rfl) rfl (fun _ w1 _ hI1 => ac_load (hS1 _ hI1.frm) hx rfl) ?_; (refine gs ?_))
      (repeat ((first | refine n_must rfl ?_ | refine n_chk (drawF_ok (by decide +kernel)) ?_ | refine n_same rfl ?_ | ((first | refine n_must ?_ ?_ | refine n_brT ?_ ?_); (focus (first | (simp [hil, h4']; done) | (simp [hil, h4']; omega) | (simp only [hil, h4']; simp; done)))) | (refine n_brF ?_ ?_; (focus (first | (simp [hil, h4']; done) | (simp [hil, h4']; omega) | (simp only [hil, h4']; simp; done)))) | refine n_must (by (with_reducible refine and_shape ?_) <;> kernel_rfl) ?_); (refine gs ?_)))
      refine n_callR (Y := Wh × Option Addr × Nat) 0 (fun y => (whRes _ y.1).both (tRow y.2.1 (tickF A.s x).2.2.length y.2.2 (tms (tickF A.s x).2.2))) (fun y => .tup [.int .i64 (tickF A.s x).2.1, .raw (.slice y.2.1 (tickF A.s x).2.2.length y.2.2)]) (fun y => .tuple #[.int .i64 (tickF A.s x).2.1, .slice y.2.1 (tickF A.s x).2.2.length y.2.2]) (fun y => y.1.ok (i + 1) ∧ y.1.s = (tickF A.s x).1) rfl rfl (fun _ => rfl) rfl rfl rfl (fun _ w1 _ hI1 hR1 => tick_as hA rfl (by omega) hg hR1) ?_
      rintro ⟨A', oa, ca⟩ ⟨hA', hAs⟩
      dsimp only at hA' hAs ⊢
      (refine gs ?_)
      by_cases hj : i < T.length
      · have hz : T[i]? = some T[i] := List.getElem?_eq_getElem _
        obtain ⟨ad2, rfl⟩ := rd_some ac_len (by omega) hR2 (show 0 < T.length by omega)
        have hgz := hT _ (List.getElem_mem hj)
        generalize T[i] = z at hz hgz
        (repeat ((first | refine n_must rfl ?_ | refine n_chk (drawF_ok (by decide +kernel)) ?_ | refine n_same rfl ?_ | ((first | refine n_must ?_ ?_ | refine n_brT ?_ ?_); (focus (first | (simp [hil, h4', hj]; done) | (simp [hil, h4', hj]; omega) | (simp only [hil, h4', hj]; simp; done)))) | (refine n_brF ?_ ?_; (focus (first | (simp [hil, h4', hj]; done) | (simp [hil, h4', hj]; omega) | (simp only [hil, h4', hj]; simp; done)))) | refine n_must (by (with_reducible refine and_shape ?_) <;> kernel_rfl) ?_); (refine gs ?_)))
        (refine n_ldA (.agg z.sv) rfl (by first | exact trivial | rfl) rfl (fun _ w1 _ hI1 => ac_load (hT1 _ hI1.frm) hz rfl) ?_; (refine gs ?_))
        (repeat ((first | refine n_must rfl ?_ | refine n_chk (drawF_ok (by decide +kernel)) ?_ | refine n_same rfl ?_ | ((first | refine n_must ?_ ?_ | refine n_brT ?_ ?_); (focus (first | (simp [hil, h4', hj]; done) | (simp [hil, h4', hj]; omega) | (simp only [hil, h4', hj]; simp; done)))) | (refine n_brF ?_ ?_; (focus (first | (simp [hil, h4', hj]; done) | (simp [hil, h4', hj]; omega) | (simp only [hil, h4', hj]; simp; done)))) | refine n_must (by (with_reducible refine and_shape ?_) <;> kernel_rfl) ?_); (refine gs ?_)))
        refine n_callR (Y := Wh × Option Addr × Nat) 2 (fun y => (whRes _ y.1).both (tRow y.2.1 (tickF C.s z).2.2.length y.2.2 (tms (tickF C.s z).2.2))) (fun y => .tup [.int .i64 (tickF C.s z).2.1, .raw (.slice y.2.1 (tickF C.s z).2.2.length y.2.2)]) (fun y => .tuple #[.int .i64 (tickF C.s z).2.1, .slice y.2.1 (tickF C.s z).2.2.length y.2.2]) (fun y => y.1.ok (i + 1) ∧ y.1.s = (tickF C.s z).1) rfl rfl (fun _ => rfl) rfl rfl rfl (fun _ w1 _ hI1 hR1 => tick_as hC rfl (by omega) hgz hR1) ?_
        rintro ⟨C', oc, cc⟩ ⟨hC', hCs⟩
        dsimp only at hC' hCs ⊢
        (refine gs ?_)
        (repeat ((first | refine n_must rfl ?_ | refine n_chk (drawF_ok (by decide +kernel)) ?_ | refine n_same rfl ?_ | ((first | refine n_must ?_ ?_ | refine n_brT ?_ ?_); (focus (first | (simp [hil, h4']; done) | (simp [hil, h4']; omega) | (simp only [hil, h4']; simp; done)))) | (refine n_brF ?_ ?_; (focus (first | (simp [hil, h4']; done) | (simp [hil, h4']; omega) | (simp only [hil, h4']; simp; done)))) | refine n_must (by (with_reducible refine and_shape ?_) <;> kernel_rfl) ?_); (refine gs ?_)))
        (refine n_ldA (.agg x.sv) rfl (by first | exact trivial | rfl) rfl (fun _ w1 _ hI1 => ac_load (hS1 _ hI1.frm) hx rfl) ?_; (refine gs ?_))
        (repeat ((first | refine n_must rfl ?_ | refine n_chk (drawF_ok (by decide +kernel)) ?_ | refine n_same rfl ?_ | ((first | refine n_must ?_ ?_ | refine n_brT ?_ ?_); (focus (first | (simp [hil, h4']; done) | (simp [hil, h4']; omega) | (simp only [hil, h4']; simp; done)))) | (refine n_brF ?_ ?_; (focus (first | (simp [hil, h4']; done) | (simp [hil, h4']; omega) | (simp only [hil, h4']; simp; done)))) | refine n_must (by (with_reducible refine and_shape ?_) <;> kernel_rfl) ?_); (refine gs ?_)))
        refine n_callX [0] _ rfl (fun w1 hI1 => hI1.part2 2 rfl rfl 54) ?_
        refine n_callR (Y := Wh × Option Addr × Nat) 1 (fun y => (whRes _ y.1).both (tRow y.2.1 (tickF A.s x).2.2.length y.2.2 (tms (tickF A.s x).2.2))) (fun y => .tup [.int .i64 (tickF A.s x).2.1, .raw (.slice y.2.1 (tickF A.s x).2.2.length y.2.2)]) (fun y => .tuple #[.int .i64 (tickF A.s x).2.1, .slice y.2.1 (tickF A.s x).2.2.length y.2.2]) (fun y => y.1.ok (i + 1) ∧ y.1.s = (tickF A.s x).1) rfl rfl (fun _ => rfl) rfl rfl rfl (fun _ w1 _ hI1 hR1 => tick_as hB hE (by omega) hg hR1) ?_
        rintro ⟨B', ob, cb⟩ ⟨hB', hBs⟩
        dsimp only at hB' hBs ⊢
        (refine gs ?_)
        refine gw ?_
        refine n_callX [0] _ rfl (fun w1 hI1 => hI1.part2 0 rfl rfl 54) ?_
        refine n_callX [0] _ rfl (fun w1 hI1 => hI1.part2 1 rfl rfl 54) ?_
        refine n_sameP (.bool true) rfl rfl rfl (fun _ w1 hp1 hI1 => same_ok ca cb (rd_of_row (hI1.res 4 rfl rfl)) (rd_lt (rd_of_row (hI1.res 4 rfl rfl))) (rd_of_row (hI1.res 5 rfl rfl)) (rd_lt (rd_of_row (hI1.res 5 rfl rfl))) (by omega)) ?_; (refine gs ?_)
        refine gw ?_
        exact n_again ⟨(i + 1, A', B', C'), ⟨by dsimp only; omega, by dsimp only; omega, ⟨hA', hB', hC', by rw [hAs, hBs]⟩⟩, by dsimp only; omega, (by (repeat (first | exact trivial | refine ⟨⟨rfl, rfl⟩, ?_⟩ | refine ⟨⟨rfl, congrArg (SV.int .i64) ei⟩, ?_⟩))), ⟨_, rfl⟩⟩
      · have hC' : C.ok (i + 1) := ⟨hC.n, hC.s.mono (by omega), hC.nd, hC.pl⟩
        (repeat ((first | refine n_must rfl ?_ | refine n_chk (drawF_ok (by decide +kernel)) ?_ | refine n_same rfl ?_ | ((first | refine n_must ?_ ?_ | refine n_brT ?_ ?_); (focus (first | (simp [hil, h4', hj]; done) | (simp [hil, h4', hj]; omega) | (simp only [hil, h4', hj]; simp; done)))) | (refine n_brF ?_ ?_; (focus (first | (simp [hil, h4', hj]; done) | (simp [hil, h4', hj]; omega) | (simp only [hil, h4', hj]; simp; done)))) | refine n_must (by (with_reducible refine and_shape ?_) <;> kernel_rfl) ?_); (refine gs ?_)))
        (refine n_ldA (.agg x.sv) rfl (by first | exact trivial | rfl) rfl (fun _ w1 _ hI1 => ac_load (hS1 _ hI1.frm) hx rfl) ?_; (refine gs ?_))
        (repeat ((first | refine n_must rfl ?_ | refine n_chk (drawF_ok (by decide +kernel)) ?_ | refine n_same rfl ?_ | ((first | refine n_must ?_ ?_ | refine n_brT ?_ ?_); (focus (first | (simp [hil, h4']; done) | (simp [hil, h4']; omega) | (simp only [hil, h4']; simp; done)))) | (refine n_brF ?_ ?_; (focus (first | (simp [hil, h4']; done) | (simp [hil, h4']; omega) | (simp only [hil, h4']; simp; done)))) | refine n_must (by (with_reducible refine and_shape ?_) <;> kernel_rfl) ?_); (refine gs ?_)))
        skip
        refine n_callR (Y := Wh × Option Addr × Nat) 1 (fun y => (whRes _ y.1).both (tRow y.2.1 (tickF A.s x).2.2.length y.2.2 (tms (tickF A.s x).2.2))) (fun y => .tup [.int .i64 (tickF A.s x).2.1, .raw (.slice y.2.1 (tickF A.s x).2.2.length y.2.2)]) (fun y => .tuple #[.int .i64 (tickF A.s x).2.1, .slice y.2.1 (tickF A.s x).2.2.length y.2.2]) (fun y => y.1.ok (i + 1) ∧ y.1.s = (tickF A.s x).1) rfl rfl (fun _ => rfl) rfl rfl rfl (fun _ w1 _ hI1 hR1 => tick_as hB hE (by omega) hg hR1) ?_
        rintro ⟨B', ob, cb⟩ ⟨hB', hBs⟩
        dsimp only at hB' hBs ⊢
        (refine gs ?_)
        refine gw ?_
        refine n_callX [0] _ rfl (fun w1 hI1 => hI1.part2 0 rfl rfl 54) ?_
        refine n_callX [0] _ rfl (fun w1 hI1 => hI1.part2 1 rfl rfl 54) ?_
        refine n_sameP (.bool true) rfl rfl rfl (fun _ w1 hp1 hI1 => same_ok ca cb (rd_of_row (hI1.res 3 rfl rfl)) (rd_lt (rd_of_row (hI1.res 3 rfl rfl))) (rd_of_row (hI1.res 4 rfl rfl)) (rd_lt (rd_of_row (hI1.res 4 rfl rfl))) (by omega)) ?_; (refine gs ?_)
        refine gw ?_
        exact n_again ⟨(i + 1, A', B', C), ⟨by dsimp only; omega, by dsimp only; omega, ⟨hA', hB', hC', by rw [hAs, hBs]⟩⟩, by dsimp only; omega, (by (repeat (first | exact trivial | refine ⟨⟨rfl, rfl⟩, ?_⟩ | refine ⟨⟨rfl, congrArg (SV.int .i64) ei⟩, ?_⟩))), ⟨_, rfl⟩⟩
    · have h4' : ¬ (i : Int) < 400 := by omega
      (repeat ((first | refine n_must rfl ?_ | refine n_chk (drawF_ok (by decide +kernel)) ?_ | refine n_same rfl ?_ | ((first | refine n_must ?_ ?_ | refine n_brT ?_ ?_); (focus (first | (simp [hil, h4']; done) | (simp [hil, h4']; omega) | (simp only [hil, h4']; simp; done)))) | (refine n_brF ?_ ?_; (focus (first | (simp [hil, h4']; done) | (simp [hil, h4']; omega) | (simp only [hil, h4']; simp; done)))) | refine n_must (by (with_reducible refine and_shape ?_) <;> kernel_rfl) ?_); (refine gs ?_)))
      refine n_exit rfl ?_
      (refine gs ?_)
      refine gw ?_
      have hll : (listT A.s.A).length ≤ i := by rw [(listT_ok hA.s.up).1.length_eq]; exact hA.s.len
      refine n_callN (fun y : Option Addr × Nat => tRow y.1 (listT A.s.A).length y.2 (tms (listT A.s.A))) 54 (fun y => .raw (.slice y.1 (listT A.s.A).length y.2)) (fun y => .slice y.1 (listT A.s.A).length y.2) (fun _ => True) rfl rfl rfl (fun _ => rfl) (fun w1 hI1 => wList_ok hA (by omega) (hI1.res 0 rfl rfl)) ?_
      rintro ⟨o1, c1⟩ _ _
      (refine gs ?_)
      refine gw ?_
      refine n_callN (fun y : Option Addr × Nat => tRow y.1 (listT A.s.A).length y.2 (tms (listT A.s.A))) 54 (fun y => .raw (.slice y.1 (listT A.s.A).length y.2)) (fun y => .slice y.1 (listT A.s.A).length y.2) (fun _ => True) rfl rfl rfl (fun _ => rfl) (fun w1 hI1 => by rw [← hE]; exact wList_ok hB (by omega) (hI1.res 1 rfl rfl)) ?_
      rintro ⟨o2, c2⟩ _ _
      (refine gs ?_)
      refine gw ?_
      refine n_sameP (.bool true) rfl rfl rfl (fun _ w1 hp1 hI1 => same_ok c1 c2 (rd_of_row (hI1.res 3 rfl rfl)) (rd_lt (rd_of_row (hI1.res 3 rfl rfl))) (rd_of_row (hI1.res 4 rfl rfl)) (rd_lt (rd_of_row (hI1.res 4 rfl rfl))) (by omega)) ?_; (refine gs ?_)
      refine gw ?_
      refine n_sameP (.int .i64 A.s.now) rfl rfl rfl (fun _ w1 hp1 hI1 => wNow_ok (hI1.res 0 rfl rfl)) ?_; (refine gs ?_)
      refine gw ?_
      refine n_sameP (.int .i64 A.s.now) rfl rfl rfl (fun _ w1 hp1 hI1 => hE ▸ wNow_ok (hI1.res 1 rfl rfl)) ?_; (refine gs ?_)
      refine gw ?_
      refine n_ret0 rfl rfl fun ids' w' hp hI' => ⟨ret_bool (by simp), hI'.frm⟩
  · (repeat ((first | refine n_must rfl ?_ | refine n_chk (drawF_ok (by decide +kernel)) ?_ | refine n_same rfl ?_ | ((first | refine n_must ?_ ?_ | refine n_brT ?_ ?_); (focus (first | (simp [hil]; done) | (simp [hil]; omega) | (simp only [hil]; simp; done)))) | (refine n_brF ?_ ?_; (focus (first | (simp [hil]; done) | (simp [hil]; omega) | (simp only [hil]; simp; done)))) | refine n_must (by (with_reducible refine and_shape ?_) <;> kernel_rfl) ?_); (refine gs ?_)))
    refine n_exit rfl ?_
    (refine gs ?_)
    refine gw ?_
    have hll : (listT A.s.A).length ≤ i := by rw [(listT_ok hA.s.up).1.length_eq]; exact hA.s.len
    refine n_callN (fun y : Option Addr × Nat => tRow y.1 (listT A.s.A).length y.2 (tms (listT A.s.A))) 54 (fun y => .raw (.slice y.1 (listT A.s.A).length y.2)) (fun y => .slice y.1 (listT A.s.A).length y.2) (fun _ => True) rfl rfl rfl (fun _ => rfl) (fun w1 hI1 => wList_ok hA (by omega) (hI1.res 0 rfl rfl)) ?_
    rintro ⟨o1, c1⟩ _ _
    (refine gs ?_)
    refine gw ?_
    refine n_callN (fun y : Option Addr × Nat => tRow y.1 (listT A.s.A).length y.2 (tms (listT A.s.A))) 54 (fun y => .raw (.slice y.1 (listT A.s.A).length y.2)) (fun y => .slice y.1 (listT A.s.A).length y.2) (fun _ => True) rfl rfl rfl (fun _ => rfl) (fun w1 hI1 => by rw [← hE]; exact wList_ok hB (by omega) (hI1.res 1 rfl rfl)) ?_
    rintro ⟨o2, c2⟩ _ _
    (refine gs ?_)
    refine gw ?_
    refine n_sameP (.bool true) rfl rfl rfl (fun _ w1 hp1 hI1 => same_ok c1 c2 (rd_of_row (hI1.res 3 rfl rfl)) (rd_lt (rd_of_row (hI1.res 3 rfl rfl))) (rd_of_row (hI1.res 4 rfl rfl)) (rd_lt (rd_of_row (hI1.res 4 rfl rfl))) (by omega)) ?_; (refine gs ?_)
    refine gw ?_
    refine n_sameP (.int .i64 A.s.now) rfl rfl rfl (fun _ w1 hp1 hI1 => wNow_ok (hI1.res 0 rfl rfl)) ?_; (refine gs ?_)
    refine gw ?_
    refine n_sameP (.int .i64 A.s.now) rfl rfl rfl (fun _ w1 hp1 hI1 => hE ▸ wNow_ok (hI1.res 1 rfl rfl)) ?_; (refine gs ?_)
    refine gw ?_
    refine n_ret0 rfl rfl fun ids' w' hp hI' => ⟨ret_bool (by simp), hI'.frm⟩
end Go.Proofs.Ytjmaddmklogchaa
