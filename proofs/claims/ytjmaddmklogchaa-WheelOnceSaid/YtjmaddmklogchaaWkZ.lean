/- Chapter 5's law: WheelOnce. -/
import Derived.Test.YtjmaddmklogchaaWkY
import Derived.Test.YtjmaddmklogchaaWkV
set_option maxRecDepth 100000
set_option linter.unusedSimpArgs false
set_option linter.unusedVariables false
set_option maxHeartbeats 8000000
namespace Go.Proofs.Ytjmaddmklogchaa
open Go.RowKit

abbrev inL (x : Int) : List Value := [intV x]
theorem in_len (x : Int) : (inL x).length = 1 := rfl
abbrev inRes (o : Option Addr) (S : List Int) : Res := readRes o (S.flatMap inL)
theorem in_load {a : Addr} {S : List Int} {w : World} (h : (inRes (some a) S).R w) {i : Nat} {x : Int} (hx : S[i]? = some x) {ad : Addr} (had : ad = a.add (i * 1)) : (loadVar 3 ad).run Try.prog w = .ok (intV x) w :=
  load_cell aggInt (rd_at in_len h hx (j := 0) (by omega) rfl (by rw [had]; rfl))
theorem tm90 (x : Int) : x.tmod 90 < 90 := Int.tmod_lt_of_pos x (by omega)
theorem WheelOnce_ok {sl : Int} {o o2 : Option Addr} {S T : List Int} {cap cap2 : Nat} {w : World} (h1 : i64 sl) (hR : (inRes o S).R w) (hS : ∀ a ∈ S, i64 a) (hl : S.length ≤ 9223372036854775806)
    (hR2 : (inRes o2 T).R w) (hT : ∀ a ∈ T, i64 a) (hl2 : T.length ≤ 9223372036854775806) :
    Calls Try.prog 8 #[.int .i64 sl, .slice o S.length cap, .slice o2 T.length cap2] w fun e w' => e = .returned (.bool true) ∧ Frm [] w w' := by
  have hI := Inv.nil (P := Try.prog) (N := 140) (S := []) (os := []) w
  have hS1 : ∀ w1, Frm [] w w1 → (inRes o S).R w1 := fun w1 hf => (inRes o S).stable _ _ (fun k hk => hf.block k (rd_lt hR k hk) (by simp)) hR
  have hT1 : ∀ w1, Frm [] w w1 → (inRes o2 T).R w1 := fun w1 hf => (inRes o2 T).stable _ _ (fun k hk => hf.block k (rd_lt hR2 k hk) (by simp)) hR2
  obtain ⟨it, hit, hparts⟩ : ∃ it : TypeInfo, Try.prog.info? 3 = some it ∧ it.zero = some (.int .i64 0) ∧ it.size = 1 ∧ it.bytes = 8 := ⟨_, rfl, rfl, rfl, rfl⟩
  generalize hn : withinF sl 64 = n
  have bn : 1 ≤ n ∧ n ≤ 64 := hn ▸ within_le (by omega)
  refine calls_sm (cx 140 [] [] w) (vals := [.int .i64 sl, .raw (.slice o S.length cap), .raw (.slice o2 T.length cap2)]) mixed Try.func8 rfl rfl rfl hI rfl (st rfl ?_); conv => arg 3; whnf
  refine gw ?_
  refine n_sameP (.int .i64 n) rfl rfl rfl (fun _ w1 hp1 hI1 => hn ▸ within_ok sl 64 h1 (by omega) (by omega) w1) ?_; (refine gs ?_)
  refine gw ?_
  refine n_callN (fun y : Nat × Nat => whRes y.1 (Wh.new n.toNat y.2)) 58 (fun y => .tup [.raw (pV y.1), .int .i64 0]) (fun y => .tuple #[pV y.1, .int .i64 0]) (fun _ => True) rfl rfl rfl (fun _ => rfl) (fun w1 hI1 => wNew_ok n w1 bn) ?_
  rintro ⟨p, mb⟩ _ _
  dsimp only
  (refine gs ?_)
  refine gw ?_
  refine n_sameP (.bool true) rfl rfl rfl (fun _ w1 hp1 hI1 => able_ok w1) ?_; (refine gs ?_)
  refine gw ?_
  by_cases hg : (60 : Int) < (S.length : Int)
  · as_aux_lemma =>
    (repeat ((first | refine n_must rfl ?_ | refine n_chk (drawF_ok (by decide +kernel)) ?_ | refine n_same rfl ?_ | ((first | refine n_must ?_ ?_ | refine n_brT ?_ ?_); (focus (first | (simp [hg]; done) | (simp [hg]; omega) | (simp only [hg]; simp; done)))) | (refine n_brF ?_ ?_; (focus (first | (simp [hg]; done) | (simp [hg]; omega) | (simp only [hg]; simp; done)))) | refine n_must (by (with_reducible refine and_shape ?_) <;> kernel_rfl) ?_); (refine gs ?_)))
    have e1 : some (SV.int .i64 (IntKind.i64.wrap (60 + 1))) = some (SV.int .i64 ((60 + 1 : Nat) : Int)) := rfl
    refine n_makeSlice (n := 60 + 1) 3 rfl rfl rfl Try.underlying40 hit hparts.1 hparts.2.1 hparts.2.2 e1 e1 (by omega) (by omega) fun b hb => ?_
    (refine gs ?_)
    refine gw ?_
    rw [show (List.replicate (60 + 1) (Value.int .i64 0).cells.toList).flatten = dCells 60 (fun _ => 0) from (by
      unfold dCells
      simp [Value.cells, intV, List.map_const'])]
    refine n_loop (σ := Nat × Wh × (Nat → Int) × Int) (fun t => [(1, .raw (.slice o S.length cap)), (2, .raw (.slice o2 T.length cap2)), (7, .raw (pV p)), (9, .int .i64 ((60 : Nat) : Int)), (10, .raw (.slice (some ⟨b, 0, none⟩) (60 + 1) (60 + 1))), (11, .int .i64 t.2.2.2), (12, .int .i64 (t.1 : Nat))]) (fun t => cmM p b 60 t.2.1 t.2.2.1) (fun t => t.1 ≤ 60 ∧ On (2 * t.1) t.1 t.2.1 t.2.2.1 t.2.2.2) (fun t => 60 - t.1) (0, Wh.new n.toNat mb, fun _ => 0, 0) mixed ⟨by dsimp only; omega, on_new (by omega)⟩ (fun _ _ => rfl) rfl (by (repeat (first | exact trivial | refine ⟨⟨rfl, rfl⟩, ?_⟩))) (fun s _ => ⟨by (repeat (first | exact trivial | refine ⟨⟨_, rfl⟩, ?_⟩)), by (repeat (first | exact trivial | refine ⟨⟨_, rfl⟩, ?_⟩))⟩) fun t ht => ?_
    obtain ⟨i, W, D, most⟩ := t
    obtain ⟨hi1, hO⟩ := ht
    dsimp only at hi1 hO ⊢
    have hnow := hO.w.s.now
    have hm0 := hO.m0
    (refine gs ?_)
    by_cases hin : i < 60
    · have hin' : (i : Int) < ((60 : Nat) : Int) := by omega
      have ei : IntKind.i64.wrap ((i : Int) + 1) = ((i + 1 : Nat) : Int) := by rw [w64 (by omega) (by omega)]; simp
      have ei2 : IntKind.i64.wrap (100 + (i : Int)) = ((100 + i : Nat) : Int) := by rw [w64 (by omega) (by omega)]; simp
      have hx : S[i]? = some S[i] := List.getElem?_eq_getElem (by omega)
      obtain ⟨ad, rfl⟩ := rd_some in_len (by omega) hR (show 0 < S.length by omega)
      have hSi : i < S.length := by omega
      generalize S[i] = x at hx
      have hd := tm90 x
      (repeat ((first | refine n_must rfl ?_ | refine n_chk (drawF_ok (by decide +kernel)) ?_ | refine n_same rfl ?_ | ((first | refine n_must ?_ ?_ | refine n_brT ?_ ?_); (focus (first | (simp [hin', hSi, hin]; done) | (simp [hin', hSi, hin]; omega) | (simp only [hin', hSi, hin]; simp; done)))) | (refine n_brF ?_ ?_; (focus (first | (simp [hin', hSi, hin]; done) | (simp [hin', hSi, hin]; omega) | (simp only [hin', hSi, hin]; simp; done)))) | refine n_must (by (with_reducible refine and_shape ?_) <;> kernel_rfl) ?_); (refine gs ?_)))
      (refine n_ldA (.int .i64 x) rfl (by first | exact trivial | rfl) rfl (fun _ w1 _ hI1 => in_load (hS1 _ hI1.frm) hx rfl) ?_; (refine gs ?_))
      refine gw ?_
      refine n_callR (Y := Wh) 0 (fun W' => whRes p W') (fun _ => .int .i64 ((i + 1 : Nat) : Int)) (fun _ => .int .i64 ((i + 1 : Nat) : Int)) (fun W' => W'.ok (2 * i + 1) ∧ W'.s = W.s.arm (x.tmod 90) ((100 + i : Nat) : Int) (i : Int) ∧ W'.n = W.n) rfl rfl (fun _ => rfl) rfl rfl rfl (fun _ w1 _ hI1 hR1 => (wArm_ok (d := x.tmod 90) (k := IntKind.i64.wrap (100 + (i : Int))) (i := (i : Int)) hO.w (by omega) hR1).mono fun e w' ⟨W', he, ⟨g1, g2, g3⟩, hp⟩ => ⟨W', by rw [he, hO.last]; rfl, ⟨g1, by rw [g2, ei2], g3⟩, hp⟩) ?_
      rintro W1 ⟨g1, g2, _⟩
      have hO1 := hO.arm (by omega) hd g1 g2
      (refine gs ?_)
      (repeat ((first | refine n_must rfl ?_ | refine n_chk (drawF_ok (by decide +kernel)) ?_ | refine n_same rfl ?_ | ((first | refine n_must ?_ ?_ | refine n_brT ?_ ?_); (focus (first | (simp [ei]; done) | (simp [ei]; omega) | (simp only [ei]; simp; done)))) | (refine n_brF ?_ ?_; (focus (first | (simp [ei]; done) | (simp [ei]; omega) | (simp only [ei]; simp; done)))) | refine n_must (by (with_reducible refine and_shape ?_) <;> kernel_rfl) ?_); (refine gs ?_)))
      have hnow1 : W1.s.now = W.s.now := by rw [g2]; rfl
      refine n_sameP (.int .i64 W.s.now) rfl rfl rfl (fun _ w1 hp1 hI1 => hnow1 ▸ wNow_ok (hI1.res 0 rfl rfl)) ?_; (refine gs ?_)
      have ev : IntKind.i64.wrap (W.s.now + max (x.tmod 90) 1) = W.s.now + max (x.tmod 90) 1 := w64 (by omega) (by omega)
      have hD1 : updD D (i + 1) (W.s.now + max (x.tmod 90) 1) (i + 1) = W.s.now + max (x.tmod 90) 1 := by unfold updD; rw [if_pos rfl]
      (repeat ((first | refine n_must rfl ?_ | refine n_chk (drawF_ok (by decide +kernel)) ?_ | refine n_same rfl ?_ | ((first | refine n_must ?_ ?_ | refine n_brT ?_ ?_); (focus (first | (simp [ei]; done) | (simp [ei]; omega) | (simp only [ei]; simp; done)))) | (refine n_brF ?_ ?_; (focus (first | (simp [ei]; done) | (simp [ei]; omega) | (simp only [ei]; simp; done)))) | refine n_must (by (with_reducible refine and_shape ?_) <;> kernel_rfl) ?_); (refine gs ?_)))
      refine n_storeA (n := b) (off := i + 1) (k := 1) (l := dCells 60 D) (rv := .int .i64 (IntKind.i64.wrap (W.s.now + max (x.tmod 90) 1))) (v := .int .i64 (W.s.now + max (x.tmod 90) 1)) 1 (dRow b 60 (updD D (i + 1) (W.s.now + max (x.tmod 90) 1))) (dCells 60 (updD D (i + 1) (W.s.now + max (x.tmod 90) 1))) rfl rfl rfl (by rw [ei, add_mk]; simp) rfl (by rw [ev]; rfl) sizeInt rfl rfl rfl rfl rfl (by simp [cellsRes]) (fun w h => h) (by simp [dCells]; omega) (dCells_set (by omega)) (fun w w' h hf hb => hb) (by simp [cellsRes]) ?_
      (refine gs ?_)
      (repeat ((first | refine n_must rfl ?_ | refine n_chk (drawF_ok (by decide +kernel)) ?_ | refine n_same rfl ?_ | ((first | refine n_must ?_ ?_ | refine n_brT ?_ ?_); (focus (first | (simp [ei]; done) | (simp [ei]; omega) | (simp only [ei]; simp; done)))) | (refine n_brF ?_ ?_; (focus (first | (simp [ei]; done) | (simp [ei]; omega) | (simp only [ei]; simp; done)))) | refine n_must (by (with_reducible refine and_shape ?_) <;> kernel_rfl) ?_); (refine gs ?_)))
      (refine n_ldA (.int .i64 (W.s.now + max (x.tmod 90) 1)) rfl (by first | exact trivial | rfl) rfl (fun _ w1 _ hI1 => by rw [← hD1]; exact d_load (hI1.res 1 rfl rfl) (j := i + 1) (by omega) (by rw [ei]; simp)) ?_; (refine gs ?_))
      generalize updD D (i + 1) (W.s.now + max (x.tmod 90) 1) = D1 at hO1
      generalize max most (W.s.now + max (x.tmod 90) 1) = most1 at hO1
      by_cases hj : i < T.length
      · have hy : T[i]? = some T[i] := List.getElem?_eq_getElem _
        obtain ⟨ad2, rfl⟩ := rd_some in_len (by omega) hR2 (show 0 < T.length by omega)
        have hy64 := hT _ (List.getElem_mem hj)
        generalize T[i] = y at hy hy64
        (repeat ((first | refine n_must rfl ?_ | refine n_chk (drawF_ok (by decide +kernel)) ?_ | refine n_same rfl ?_ | ((first | refine n_must ?_ ?_ | refine n_brT ?_ ?_); (focus (first | (simp [hj]; done) | (simp [hj]; omega) | (simp only [hj]; simp; done)))) | (refine n_brF ?_ ?_; (focus (first | (simp [hj]; done) | (simp [hj]; omega) | (simp only [hj]; simp; done)))) | refine n_must (by (with_reducible refine and_shape ?_) <;> kernel_rfl) ?_); (refine gs ?_)))
        (refine n_ldA (.int .i64 y) rfl (by first | exact trivial | rfl) rfl (fun _ w1 _ hI1 => in_load (hT1 _ hI1.frm) hy rfl) ?_; (refine gs ?_))
        by_cases k1 : 1 ≤ y
        · by_cases k2 : y ≤ ((i + 1 : Nat) : Int)
          · obtain ⟨k, rfl⟩ := Int.eq_ofNat_of_zero_le (show 0 ≤ y by omega)
            (repeat ((first | refine n_must rfl ?_ | refine n_chk (drawF_ok (by decide +kernel)) ?_ | refine n_same rfl ?_ | ((first | refine n_must ?_ ?_ | refine n_brT ?_ ?_); (focus (first | (simp [k1, k2, ei]; done) | (simp [k1, k2, ei]; omega) | (simp only [k1, k2, ei]; simp; done)))) | (refine n_brF ?_ ?_; (focus (first | (simp [k1, k2, ei]; done) | (simp [k1, k2, ei]; omega) | (simp only [k1, k2, ei]; simp; done)))) | refine n_must (by (with_reducible refine and_shape ?_) <;> kernel_rfl) ?_); (refine gs ?_)))
            (refine n_ldA (.int .i64 (D1 k)) rfl (by first | exact trivial | rfl) rfl (fun _ w1 _ hI1 => d_load (hI1.res 1 rfl rfl) (j := k) (by omega) (by simp)) ?_; (refine gs ?_))
            by_cases k3 : 0 < D1 k
            · as_aux_lemma =>
              have hyes : W1.s.has (k : Int) = true := hO1.has.2 ⟨k - 1, by omega, by rw [show k - 1 + 1 = k by omega]; omega, by rw [show k - 1 + 1 = k by omega]⟩
              (repeat ((first | refine n_must rfl ?_ | refine n_chk (drawF_ok (by decide +kernel)) ?_ | refine n_same rfl ?_ | ((first | refine n_must ?_ ?_ | refine n_brT ?_ ?_); (focus (first | (simp [k3]; done) | (simp [k3]; omega) | (simp only [k3]; simp; done)))) | (refine n_brF ?_ ?_; (focus (first | (simp [k3]; done) | (simp [k3]; omega) | (simp only [k3]; simp; done)))) | refine n_must (by (with_reducible refine and_shape ?_) <;> kernel_rfl) ?_); (refine gs ?_)))
              refine n_callR (Y := Wh) 0 (fun W' => whRes p W') (fun _ => .bool true) (fun _ => .bool true) (fun W' => W'.ok (2 * i + 1) ∧ W'.s = W1.s.cancel (k : Int)) rfl rfl (fun _ => rfl) rfl rfl rfl (fun _ w1 _ hI1 hR1 => (wCancel_ok hO1.w (by omega) hy64 hR1).mono fun e w' ⟨W', he, ⟨q1, q2, _⟩, hp⟩ => ⟨W', by rw [he, hyes], ⟨q1, q2⟩, hp⟩) ?_
              rintro W2 ⟨g3, g4⟩
              have hO2 := hO1.cancel (by omega) g3 g4
              (refine gs ?_)
              (repeat ((first | refine n_must rfl ?_ | refine n_chk (drawF_ok (by decide +kernel)) ?_ | refine n_same rfl ?_ | ((first | refine n_must ?_ ?_ | refine n_brT ?_ ?_); (focus (first | (simp [k3]; done) | (simp [k3]; omega) | (simp only [k3]; simp; done)))) | (refine n_brF ?_ ?_; (focus (first | (simp [k3]; done) | (simp [k3]; omega) | (simp only [k3]; simp; done)))) | refine n_must (by (with_reducible refine and_shape ?_) <;> kernel_rfl) ?_); (refine gs ?_)))
              refine n_storeA (n := b) (off := k) (k := 1) (l := dCells 60 D1) (rv := .int .i64 0) (v := .int .i64 0) 1 (dRow b 60 (updD D1 k 0)) (dCells 60 (updD D1 k 0)) rfl rfl rfl (by rw [add_mk]; simp) rfl rfl sizeInt rfl rfl rfl rfl rfl (by simp [cellsRes]) (fun w h => h) (by simp [dCells]; omega) (dCells_set (by omega)) (fun w w' h hf hb => hb) (by simp [cellsRes]) ?_
              (refine gs ?_)
              by_cases k4 : (i : Int).tmod 4 = 3
              · (repeat ((first | refine n_must rfl ?_ | refine n_chk (drawF_ok (by decide +kernel)) ?_ | refine n_same rfl ?_ | ((first | refine n_must ?_ ?_ | refine n_brT ?_ ?_); (focus (first | (simp [k4, ei]; done) | (simp [k4, ei]; omega) | (simp only [k4, ei]; simp; done)))) | (refine n_brF ?_ ?_; (focus (first | (simp [k4, ei]; done) | (simp [k4, ei]; omega) | (simp only [k4, ei]; simp; done)))) | refine n_must (by (with_reducible refine and_shape ?_) <;> kernel_rfl) ?_); (refine gs ?_)))
                refine n_callM (Y := Wh) [0, 0] (cmM p b 60 W2 (updD D1 k 0)) _ (fun y => cmM p b 60 y (tickD (updD D1 k 0) ((W2).s.now + 1))) (fun _ => .bool true) (fun _ => .bool true) (fun y => y.ok ((2 * i + 1) + 1) ∧ y.s = (W2).s.tick) rfl rfl (fun _ => rfl) rfl ⟨_, rfl⟩ (fun _ _ => .res rfl (.res rfl .nil)) (fun j bl hj => match j, hj with | 0, hj => by cases hj; rfl | 1, hj => by cases hj; rfl) (fun _ _ => rfl) (fun _ w1 _ hI1 hR1 => by
                  rw [ei]
                  exact (came_ok (n := i + 1) (hO2).w (by omega) (hO2).a (by omega) (by omega) (hO2).d0 (hO2).dn hR1).mono fun e w' ⟨y, he, ⟨q1, q2, _⟩, hp⟩ => ⟨y, he, ⟨q1, q2⟩, hp⟩) ?_
                rintro W3 ⟨g5, g6⟩
                have hO3 := (hO2).tick g5 g6
                (refine gs ?_)
                refine gw ?_
                exact n_again ⟨(i + 1, W3, tickD (updD D1 k 0) ((W2).s.now + 1), most1), ⟨by dsimp only; omega, hO3.mono (by dsimp only; omega)⟩, by dsimp only; omega, (by (repeat (first | exact trivial | refine ⟨⟨rfl, rfl⟩, ?_⟩ | refine ⟨⟨rfl, congrArg (SV.int .i64) ei⟩, ?_⟩))), ⟨_, rfl⟩⟩
              · (repeat ((first | refine n_must rfl ?_ | refine n_chk (drawF_ok (by decide +kernel)) ?_ | refine n_same rfl ?_ | ((first | refine n_must ?_ ?_ | refine n_brT ?_ ?_); (focus (first | (simp [k4]; done) | (simp [k4]; omega) | (simp only [k4]; simp; done)))) | (refine n_brF ?_ ?_; (focus (first | (simp [k4]; done) | (simp [k4]; omega) | (simp only [k4]; simp; done)))) | refine n_must (by (with_reducible refine and_shape ?_) <;> kernel_rfl) ?_); (refine gs ?_)))
                exact n_again ⟨(i + 1, W2, (updD D1 k 0), most1), ⟨by dsimp only; omega, (hO2).mono (by dsimp only; omega)⟩, by dsimp only; omega, (by (repeat (first | exact trivial | refine ⟨⟨rfl, rfl⟩, ?_⟩ | refine ⟨⟨rfl, congrArg (SV.int .i64) ei⟩, ?_⟩))), ⟨_, rfl⟩⟩
            · as_aux_lemma =>
              have hno : W1.s.has (k : Int) = false := by
                rw [Bool.eq_false_iff]
                intro h
                obtain ⟨j, _, h2, h3⟩ := hO1.has.1 h
                obtain rfl : j + 1 = k := by omega
                have := hO1.pos (j + 1)
                omega
              (repeat ((first | refine n_must rfl ?_ | refine n_chk (drawF_ok (by decide +kernel)) ?_ | refine n_same rfl ?_ | ((first | refine n_must ?_ ?_ | refine n_brT ?_ ?_); (focus (first | (simp [k3]; done) | (simp [k3]; omega) | (simp only [k3]; simp; done)))) | (refine n_brF ?_ ?_; (focus (first | (simp [k3]; done) | (simp [k3]; omega) | (simp only [k3]; simp; done)))) | refine n_must (by (with_reducible refine and_shape ?_) <;> kernel_rfl) ?_); (refine gs ?_)))
              refine n_callR (Y := Wh) 0 (fun W' => whRes p W') (fun _ => .bool false) (fun _ => .bool false) (fun W' => W'.ok (2 * i + 1) ∧ W'.s = W1.s.cancel (k : Int)) rfl rfl (fun _ => rfl) rfl rfl rfl (fun _ w1 _ hI1 hR1 => (wCancel_ok hO1.w (by omega) hy64 hR1).mono fun e w' ⟨W', he, ⟨q1, q2, _⟩, hp⟩ => ⟨W', by rw [he, hno], ⟨q1, q2⟩, hp⟩) ?_
              rintro W2 ⟨g3, g4⟩
              have hO2 := hO1.idle g3 g4 hno
              (refine gs ?_)
              refine gw ?_
              by_cases k4 : (i : Int).tmod 4 = 3
              · (repeat ((first | refine n_must rfl ?_ | refine n_chk (drawF_ok (by decide +kernel)) ?_ | refine n_same rfl ?_ | ((first | refine n_must ?_ ?_ | refine n_brT ?_ ?_); (focus (first | (simp [k4, ei]; done) | (simp [k4, ei]; omega) | (simp only [k4, ei]; simp; done)))) | (refine n_brF ?_ ?_; (focus (first | (simp [k4, ei]; done) | (simp [k4, ei]; omega) | (simp only [k4, ei]; simp; done)))) | refine n_must (by (with_reducible refine and_shape ?_) <;> kernel_rfl) ?_); (refine gs ?_)))
                refine n_callM (Y := Wh) [0, 0] (cmM p b 60 W2 D1) _ (fun y => cmM p b 60 y (tickD D1 ((W2).s.now + 1))) (fun _ => .bool true) (fun _ => .bool true) (fun y => y.ok ((2 * i + 1) + 1) ∧ y.s = (W2).s.tick) rfl rfl (fun _ => rfl) rfl ⟨_, rfl⟩ (fun _ _ => .res rfl (.res rfl .nil)) (fun j bl hj => match j, hj with | 0, hj => by cases hj; rfl | 1, hj => by cases hj; rfl) (fun _ _ => rfl) (fun _ w1 _ hI1 hR1 => by
                  rw [ei]
                  exact (came_ok (n := i + 1) (hO2).w (by omega) (hO2).a (by omega) (by omega) (hO2).d0 (hO2).dn hR1).mono fun e w' ⟨y, he, ⟨q1, q2, _⟩, hp⟩ => ⟨y, he, ⟨q1, q2⟩, hp⟩) ?_
                rintro W3 ⟨g5, g6⟩
                have hO3 := (hO2).tick g5 g6
                (refine gs ?_)
                refine gw ?_
                exact n_again ⟨(i + 1, W3, tickD D1 ((W2).s.now + 1), most1), ⟨by dsimp only; omega, hO3.mono (by dsimp only; omega)⟩, by dsimp only; omega, (by (repeat (first | exact trivial | refine ⟨⟨rfl, rfl⟩, ?_⟩ | refine ⟨⟨rfl, congrArg (SV.int .i64) ei⟩, ?_⟩))), ⟨_, rfl⟩⟩
              · (repeat ((first | refine n_must rfl ?_ | refine n_chk (drawF_ok (by decide +kernel)) ?_ | refine n_same rfl ?_ | ((first | refine n_must ?_ ?_ | refine n_brT ?_ ?_); (focus (first | (simp [k4]; done) | (simp [k4]; omega) | (simp only [k4]; simp; done)))) | (refine n_brF ?_ ?_; (focus (first | (simp [k4]; done) | (simp [k4]; omega) | (simp only [k4]; simp; done)))) | refine n_must (by (with_reducible refine and_shape ?_) <;> kernel_rfl) ?_); (refine gs ?_)))
                exact n_again ⟨(i + 1, W2, D1, most1), ⟨by dsimp only; omega, (hO2).mono (by dsimp only; omega)⟩, by dsimp only; omega, (by (repeat (first | exact trivial | refine ⟨⟨rfl, rfl⟩, ?_⟩ | refine ⟨⟨rfl, congrArg (SV.int .i64) ei⟩, ?_⟩))), ⟨_, rfl⟩⟩
          · as_aux_lemma =>
            have hno : W1.s.has y = false := by
              rw [Bool.eq_false_iff]
              intro h
              obtain ⟨j, h1, _, h3⟩ := hO1.has.1 h
              omega
            (repeat ((first | refine n_must rfl ?_ | refine n_chk (drawF_ok (by decide +kernel)) ?_ | refine n_same rfl ?_ | ((first | refine n_must ?_ ?_ | refine n_brT ?_ ?_); (focus (first | (simp [k1, k2, ei]; done) | (simp [k1, k2, ei]; omega) | (simp only [k1, k2, ei]; simp; done)))) | (refine n_brF ?_ ?_; (focus (first | (simp [k1, k2, ei]; done) | (simp [k1, k2, ei]; omega) | (simp only [k1, k2, ei]; simp; done)))) | refine n_must (by (with_reducible refine and_shape ?_) <;> kernel_rfl) ?_); (refine gs ?_)))
            refine n_callR (Y := Wh) 0 (fun W' => whRes p W') (fun _ => .bool false) (fun _ => .bool false) (fun W' => W'.ok (2 * i + 1) ∧ W'.s = W1.s.cancel y) rfl rfl (fun _ => rfl) rfl rfl rfl (fun _ w1 _ hI1 hR1 => (wCancel_ok hO1.w (by omega) hy64 hR1).mono fun e w' ⟨W', he, ⟨q1, q2, _⟩, hp⟩ => ⟨W', by rw [he, hno], ⟨q1, q2⟩, hp⟩) ?_
            rintro W2 ⟨g3, g4⟩
            have hO2 := hO1.idle g3 g4 hno
            (refine gs ?_)
            refine gw ?_
            by_cases k4 : (i : Int).tmod 4 = 3
            · (repeat ((first | refine n_must rfl ?_ | refine n_chk (drawF_ok (by decide +kernel)) ?_ | refine n_same rfl ?_ | ((first | refine n_must ?_ ?_ | refine n_brT ?_ ?_); (focus (first | (simp [k4, ei]; done) | (simp [k4, ei]; omega) | (simp only [k4, ei]; simp; done)))) | (refine n_brF ?_ ?_; (focus (first | (simp [k4, ei]; done) | (simp [k4, ei]; omega) | (simp only [k4, ei]; simp; done)))) | refine n_must (by (with_reducible refine and_shape ?_) <;> kernel_rfl) ?_); (refine gs ?_)))
              refine n_callM (Y := Wh) [0, 0] (cmM p b 60 W2 D1) _ (fun y => cmM p b 60 y (tickD D1 ((W2).s.now + 1))) (fun _ => .bool true) (fun _ => .bool true) (fun y => y.ok ((2 * i + 1) + 1) ∧ y.s = (W2).s.tick) rfl rfl (fun _ => rfl) rfl ⟨_, rfl⟩ (fun _ _ => .res rfl (.res rfl .nil)) (fun j bl hj => match j, hj with | 0, hj => by cases hj; rfl | 1, hj => by cases hj; rfl) (fun _ _ => rfl) (fun _ w1 _ hI1 hR1 => by
                rw [ei]
                exact (came_ok (n := i + 1) (hO2).w (by omega) (hO2).a (by omega) (by omega) (hO2).d0 (hO2).dn hR1).mono fun e w' ⟨y, he, ⟨q1, q2, _⟩, hp⟩ => ⟨y, he, ⟨q1, q2⟩, hp⟩) ?_
              rintro W3 ⟨g5, g6⟩
              have hO3 := (hO2).tick g5 g6
              (refine gs ?_)
              refine gw ?_
              exact n_again ⟨(i + 1, W3, tickD D1 ((W2).s.now + 1), most1), ⟨by dsimp only; omega, hO3.mono (by dsimp only; omega)⟩, by dsimp only; omega, (by (repeat (first | exact trivial | refine ⟨⟨rfl, rfl⟩, ?_⟩ | refine ⟨⟨rfl, congrArg (SV.int .i64) ei⟩, ?_⟩))), ⟨_, rfl⟩⟩
            · (repeat ((first | refine n_must rfl ?_ | refine n_chk (drawF_ok (by decide +kernel)) ?_ | refine n_same rfl ?_ | ((first | refine n_must ?_ ?_ | refine n_brT ?_ ?_); (focus (first | (simp [k4]; done) | (simp [k4]; omega) | (simp only [k4]; simp; done)))) | (refine n_brF ?_ ?_; (focus (first | (simp [k4]; done) | (simp [k4]; omega) | (simp only [k4]; simp; done)))) | refine n_must (by (with_reducible refine and_shape ?_) <;> kernel_rfl) ?_); (refine gs ?_)))
              exact n_again ⟨(i + 1, W2, D1, most1), ⟨by dsimp only; omega, (hO2).mono (by dsimp only; omega)⟩, by dsimp only; omega, (by (repeat (first | exact trivial | refine ⟨⟨rfl, rfl⟩, ?_⟩ | refine ⟨⟨rfl, congrArg (SV.int .i64) ei⟩, ?_⟩))), ⟨_, rfl⟩⟩
        · as_aux_lemma =>
          have hno : W1.s.has y = false := by
            rw [Bool.eq_false_iff]
            intro h
            obtain ⟨j, h1, _, h3⟩ := hO1.has.1 h
            omega
          (repeat ((first | refine n_must rfl ?_ | refine n_chk (drawF_ok (by decide +kernel)) ?_ | refine n_same rfl ?_ | ((first | refine n_must ?_ ?_ | refine n_brT ?_ ?_); (focus (first | (simp [k1, ei]; done) | (simp [k1, ei]; omega) | (simp only [k1, ei]; simp; done)))) | (refine n_brF ?_ ?_; (focus (first | (simp [k1, ei]; done) | (simp [k1, ei]; omega) | (simp only [k1, ei]; simp; done)))) | refine n_must (by (with_reducible refine and_shape ?_) <;> kernel_rfl) ?_); (refine gs ?_)))
          refine n_callR (Y := Wh) 0 (fun W' => whRes p W') (fun _ => .bool false) (fun _ => .bool false) (fun W' => W'.ok (2 * i + 1) ∧ W'.s = W1.s.cancel y) rfl rfl (fun _ => rfl) rfl rfl rfl (fun _ w1 _ hI1 hR1 => (wCancel_ok hO1.w (by omega) hy64 hR1).mono fun e w' ⟨W', he, ⟨q1, q2, _⟩, hp⟩ => ⟨W', by rw [he, hno], ⟨q1, q2⟩, hp⟩) ?_
          rintro W2 ⟨g3, g4⟩
          have hO2 := hO1.idle g3 g4 hno
          (refine gs ?_)
          refine gw ?_
          by_cases k4 : (i : Int).tmod 4 = 3
          · (repeat ((first | refine n_must rfl ?_ | refine n_chk (drawF_ok (by decide +kernel)) ?_ | refine n_same rfl ?_ | ((first | refine n_must ?_ ?_ | refine n_brT ?_ ?_); (focus (first | (simp [k4, ei]; done) | (simp [k4, ei]; omega) | (simp only [k4, ei]; simp; done)))) | (refine n_brF ?_ ?_; (focus (first | (simp [k4, ei]; done) | (simp [k4, ei]; omega) | (simp only [k4, ei]; simp; done)))) | refine n_must (by (with_reducible refine and_shape ?_) <;> kernel_rfl) ?_); (refine gs ?_)))
            refine n_callM (Y := Wh) [0, 0] (cmM p b 60 W2 D1) _ (fun y => cmM p b 60 y (tickD D1 ((W2).s.now + 1))) (fun _ => .bool true) (fun _ => .bool true) (fun y => y.ok ((2 * i + 1) + 1) ∧ y.s = (W2).s.tick) rfl rfl (fun _ => rfl) rfl ⟨_, rfl⟩ (fun _ _ => .res rfl (.res rfl .nil)) (fun j bl hj => match j, hj with | 0, hj => by cases hj; rfl | 1, hj => by cases hj; rfl) (fun _ _ => rfl) (fun _ w1 _ hI1 hR1 => by
              rw [ei]
              exact (came_ok (n := i + 1) (hO2).w (by omega) (hO2).a (by omega) (by omega) (hO2).d0 (hO2).dn hR1).mono fun e w' ⟨y, he, ⟨q1, q2, _⟩, hp⟩ => ⟨y, he, ⟨q1, q2⟩, hp⟩) ?_
            rintro W3 ⟨g5, g6⟩
            have hO3 := (hO2).tick g5 g6
            (refine gs ?_)
            refine gw ?_
            exact n_again ⟨(i + 1, W3, tickD D1 ((W2).s.now + 1), most1), ⟨by dsimp only; omega, hO3.mono (by dsimp only; omega)⟩, by dsimp only; omega, (by (repeat (first | exact trivial | refine ⟨⟨rfl, rfl⟩, ?_⟩ | refine ⟨⟨rfl, congrArg (SV.int .i64) ei⟩, ?_⟩))), ⟨_, rfl⟩⟩
          · (repeat ((first | refine n_must rfl ?_ | refine n_chk (drawF_ok (by decide +kernel)) ?_ | refine n_same rfl ?_ | ((first | refine n_must ?_ ?_ | refine n_brT ?_ ?_); (focus (first | (simp [k4]; done) | (simp [k4]; omega) | (simp only [k4]; simp; done)))) | (refine n_brF ?_ ?_; (focus (first | (simp [k4]; done) | (simp [k4]; omega) | (simp only [k4]; simp; done)))) | refine n_must (by (with_reducible refine and_shape ?_) <;> kernel_rfl) ?_); (refine gs ?_)))
            exact n_again ⟨(i + 1, W2, D1, most1), ⟨by dsimp only; omega, (hO2).mono (by dsimp only; omega)⟩, by dsimp only; omega, (by (repeat (first | exact trivial | refine ⟨⟨rfl, rfl⟩, ?_⟩ | refine ⟨⟨rfl, congrArg (SV.int .i64) ei⟩, ?_⟩))), ⟨_, rfl⟩⟩
      · as_aux_lemma =>
        (repeat ((first | refine n_must rfl ?_ | refine n_chk (drawF_ok (by decide +kernel)) ?_ | refine n_same rfl ?_ | ((first | refine n_must ?_ ?_ | refine n_brT ?_ ?_); (focus (first | (simp [hj]; done) | (simp [hj]; omega) | (simp only [hj]; simp; done)))) | (refine n_brF ?_ ?_; (focus (first | (simp [hj]; done) | (simp [hj]; omega) | (simp only [hj]; simp; done)))) | refine n_must (by (with_reducible refine and_shape ?_) <;> kernel_rfl) ?_); (refine gs ?_)))
        by_cases k4 : (i : Int).tmod 4 = 3
        · (repeat ((first | refine n_must rfl ?_ | refine n_chk (drawF_ok (by decide +kernel)) ?_ | refine n_same rfl ?_ | ((first | refine n_must ?_ ?_ | refine n_brT ?_ ?_); (focus (first | (simp [k4, ei]; done) | (simp [k4, ei]; omega) | (simp only [k4, ei]; simp; done)))) | (refine n_brF ?_ ?_; (focus (first | (simp [k4, ei]; done) | (simp [k4, ei]; omega) | (simp only [k4, ei]; simp; done)))) | refine n_must (by (with_reducible refine and_shape ?_) <;> kernel_rfl) ?_); (refine gs ?_)))
          refine n_callM (Y := Wh) [0, 0] (cmM p b 60 W1 D1) _ (fun y => cmM p b 60 y (tickD D1 ((W1).s.now + 1))) (fun _ => .bool true) (fun _ => .bool true) (fun y => y.ok ((2 * i + 1) + 1) ∧ y.s = (W1).s.tick) rfl rfl (fun _ => rfl) rfl ⟨_, rfl⟩ (fun _ _ => .res rfl (.res rfl .nil)) (fun j bl hj => match j, hj with | 0, hj => by cases hj; rfl | 1, hj => by cases hj; rfl) (fun _ _ => rfl) (fun _ w1 _ hI1 hR1 => by
            rw [ei]
            exact (came_ok (n := i + 1) (hO1).w (by omega) (hO1).a (by omega) (by omega) (hO1).d0 (hO1).dn hR1).mono fun e w' ⟨y, he, ⟨q1, q2, _⟩, hp⟩ => ⟨y, he, ⟨q1, q2⟩, hp⟩) ?_
          rintro W3 ⟨g5, g6⟩
          have hO3 := (hO1).tick g5 g6
          (refine gs ?_)
          refine gw ?_
          exact n_again ⟨(i + 1, W3, tickD D1 ((W1).s.now + 1), most1), ⟨by dsimp only; omega, hO3.mono (by dsimp only; omega)⟩, by dsimp only; omega, (by (repeat (first | exact trivial | refine ⟨⟨rfl, rfl⟩, ?_⟩ | refine ⟨⟨rfl, congrArg (SV.int .i64) ei⟩, ?_⟩))), ⟨_, rfl⟩⟩
        · (repeat ((first | refine n_must rfl ?_ | refine n_chk (drawF_ok (by decide +kernel)) ?_ | refine n_same rfl ?_ | ((first | refine n_must ?_ ?_ | refine n_brT ?_ ?_); (focus (first | (simp [k4]; done) | (simp [k4]; omega) | (simp only [k4]; simp; done)))) | (refine n_brF ?_ ?_; (focus (first | (simp [k4]; done) | (simp [k4]; omega) | (simp only [k4]; simp; done)))) | refine n_must (by (with_reducible refine and_shape ?_) <;> kernel_rfl) ?_); (refine gs ?_)))
          exact n_again ⟨(i + 1, W1, D1, most1), ⟨by dsimp only; omega, (hO1).mono (by dsimp only; omega)⟩, by dsimp only; omega, (by (repeat (first | exact trivial | refine ⟨⟨rfl, rfl⟩, ?_⟩ | refine ⟨⟨rfl, congrArg (SV.int .i64) ei⟩, ?_⟩))), ⟨_, rfl⟩⟩
    · as_aux_lemma =>
      obtain rfl : i = 60 := by omega
      (repeat ((first | refine n_must rfl ?_ | refine n_chk (drawF_ok (by decide +kernel)) ?_ | refine n_same rfl ?_ | ((first | refine n_must ?_ ?_ | refine n_brT ?_ ?_); (focus (first | (simp [hin]; done) | (simp [hin]; omega) | (simp only [hin]; simp; done)))) | (refine n_brF ?_ ?_; (focus (first | (simp [hin]; done) | (simp [hin]; omega) | (simp only [hin]; simp; done)))) | refine n_must (by (with_reducible refine and_shape ?_) <;> kernel_rfl) ?_); (refine gs ?_)))
      refine n_exit rfl ?_
      (refine gs ?_)
      refine gw ?_
      refine n_loop (σ := Wh × (Nat → Int) × Nat) (fun t => [(7, .raw (pV p)), (9, .int .i64 ((60 : Nat) : Int)), (10, .raw (.slice (some ⟨b, 0, none⟩) (60 + 1) (60 + 1))), (11, .int .i64 most)]) (fun t => cmM p b 60 t.1 t.2.1) (fun t => On t.2.2 60 t.1 t.2.1 most ∧ t.2.2 ≤ 120 + t.1.s.now.toNat ∧ t.2.2 ≤ 600) (fun t => (most - t.1.s.now).toNat) (W, D, 2 * 60) mixed ⟨hO, by dsimp only; omega, by dsimp only; omega⟩ (fun _ _ => rfl) rfl (by (repeat (first | exact trivial | refine ⟨⟨rfl, rfl⟩, ?_⟩))) (fun s _ => ⟨by (repeat (first | exact trivial | refine ⟨⟨_, rfl⟩, ?_⟩)), by (repeat (first | exact trivial | refine ⟨⟨_, rfl⟩, ?_⟩))⟩) fun t ht => ?_
      obtain ⟨W2, D2, K⟩ := t
      obtain ⟨hO2, hK, hK6⟩ := ht
      dsimp only at hO2 hK hK6 ⊢
      have hnow2 := hO2.w.s.now
      (refine gs ?_)
      refine gw ?_
      refine n_sameP (.int .i64 W2.s.now) rfl rfl rfl (fun _ w1 hp1 hI1 => wNow_ok (hI1.res 0 rfl rfl)) ?_; (refine gs ?_)
      by_cases hlt : W2.s.now < most
      · have ek : IntKind.i64.wrap (W2.s.now + 1) = W2.s.now + 1 := w64 (by omega) (by omega)
        (repeat ((first | refine n_must rfl ?_ | refine n_chk (drawF_ok (by decide +kernel)) ?_ | refine n_same rfl ?_ | ((first | refine n_must ?_ ?_ | refine n_brT ?_ ?_); (focus (first | (simp [hlt]; done) | (simp [hlt]; omega) | (simp only [hlt]; simp; done)))) | (refine n_brF ?_ ?_; (focus (first | (simp [hlt]; done) | (simp [hlt]; omega) | (simp only [hlt]; simp; done)))) | refine n_must (by (with_reducible refine and_shape ?_) <;> kernel_rfl) ?_); (refine gs ?_)))
        refine n_sameP (.int .i64 W2.s.now) rfl rfl rfl (fun _ w1 hp1 hI1 => wNow_ok (hI1.res 0 rfl rfl)) ?_; (refine gs ?_)
        refine gw ?_
        refine n_callM (Y := Wh) [0, 0] (cmM p b 60 W2 D2) _ (fun y => cmM p b 60 y (tickD D2 ((W2).s.now + 1))) (fun _ => .bool true) (fun _ => .bool true) (fun y => y.ok (K + 1) ∧ y.s = (W2).s.tick) rfl rfl (fun _ => rfl) rfl ⟨_, rfl⟩ (fun _ _ => .res rfl (.res rfl .nil)) (fun j bl hj => match j, hj with | 0, hj => by cases hj; rfl | 1, hj => by cases hj; rfl) (fun _ _ => rfl) (fun _ w1 _ hI1 hR1 => by
          skip
          exact (came_ok (n := 60) (hO2).w (by omega) (hO2).a (by omega) (by omega) (hO2).d0 (hO2).dn hR1).mono fun e w' ⟨y, he, ⟨q1, q2, _⟩, hp⟩ => ⟨y, he, ⟨q1, q2⟩, hp⟩) ?_
        rintro W3 ⟨g5, g6⟩
        have hO3 := (hO2).tick g5 g6
        (refine gs ?_)
        have hnow3 : W3.s.now = W2.s.now + 1 := by rw [g6]; rfl
        refine gw ?_
        refine n_sameP (.int .i64 (W2.s.now + 1)) rfl rfl rfl (fun _ w1 hp1 hI1 => hnow3 ▸ wNow_ok (hI1.res 0 rfl rfl)) ?_; (refine gs ?_)
        (repeat ((first | refine n_must rfl ?_ | refine n_chk (drawF_ok (by decide +kernel)) ?_ | refine n_same rfl ?_ | ((first | refine n_must ?_ ?_ | refine n_brT ?_ ?_); (focus (first | (simp [ek]; done) | (simp [ek]; omega) | (simp only [ek]; simp; done)))) | (refine n_brF ?_ ?_; (focus (first | (simp [ek]; done) | (simp [ek]; omega) | (simp only [ek]; simp; done)))) | refine n_must (by (with_reducible refine and_shape ?_) <;> kernel_rfl) ?_); (refine gs ?_)))
        exact n_again ⟨(W3, tickD D2 (W2.s.now + 1), K + 1), ⟨hO3, by dsimp only; omega, by dsimp only; omega⟩, by dsimp only; omega, (by (repeat (first | exact trivial | refine ⟨⟨rfl, rfl⟩, ?_⟩))), ⟨_, rfl⟩⟩
      · (repeat ((first | refine n_must rfl ?_ | refine n_chk (drawF_ok (by decide +kernel)) ?_ | refine n_same rfl ?_ | ((first | refine n_must ?_ ?_ | refine n_brT ?_ ?_); (focus (first | (simp [hlt]; done) | (simp [hlt]; omega) | (simp only [hlt]; simp; done)))) | (refine n_brF ?_ ?_; (focus (first | (simp [hlt]; done) | (simp [hlt]; omega) | (simp only [hlt]; simp; done)))) | refine n_must (by (with_reducible refine and_shape ?_) <;> kernel_rfl) ?_); (refine gs ?_)))
        refine n_exit rfl ?_
        (refine gs ?_)
        refine gw ?_
        have hE := hO2.empty (by omega)
        refine n_callN (fun y : Option Addr × Nat => tRow y.1 0 y.2 []) 54 (fun y => .raw (.slice y.1 0 y.2)) (fun y => .slice y.1 0 y.2) (fun _ => True) rfl rfl rfl (fun _ => rfl) (fun w1 hI1 => (wList_ok hO2.w (by omega) (hI1.res 0 rfl rfl)).mono fun e w' h => by rw [hE] at h; exact h) ?_
        rintro ⟨o3, c3⟩ _ _
        (refine gs ?_)
        refine gw ?_
        refine n_ret0 rfl rfl fun ids' w' hp hI' => ⟨ret_bool (by simp), hI'.frm⟩
  · as_aux_lemma =>
    (repeat ((first | refine n_must rfl ?_ | refine n_chk (drawF_ok (by decide +kernel)) ?_ | refine n_same rfl ?_ | ((first | refine n_must ?_ ?_ | refine n_brT ?_ ?_); (focus (first | (simp [hg]; done) | (simp [hg]; omega) | (simp only [hg]; simp; done)))) | (refine n_brF ?_ ?_; (focus (first | (simp [hg]; done) | (simp [hg]; omega) | (simp only [hg]; simp; done)))) | refine n_must (by (with_reducible refine and_shape ?_) <;> kernel_rfl) ?_); (refine gs ?_)))
    have e1 : some (SV.int .i64 (IntKind.i64.wrap ((S.length : Nat) + 1))) = some (SV.int .i64 ((S.length + 1 : Nat) : Int)) := by rw [w64 (by omega) (by omega)]; simp
    refine n_makeSlice (n := S.length + 1) 3 rfl rfl rfl Try.underlying40 hit hparts.1 hparts.2.1 hparts.2.2 e1 e1 (by omega) (by omega) fun b hb => ?_
    (refine gs ?_)
    refine gw ?_
    rw [show (List.replicate (S.length + 1) (Value.int .i64 0).cells.toList).flatten = dCells S.length (fun _ => 0) from (by
      unfold dCells
      simp [Value.cells, intV, List.map_const'])]
    refine n_loop (σ := Nat × Wh × (Nat → Int) × Int) (fun t => [(1, .raw (.slice o S.length cap)), (2, .raw (.slice o2 T.length cap2)), (7, .raw (pV p)), (9, .int .i64 ((S.length : Nat) : Int)), (10, .raw (.slice (some ⟨b, 0, none⟩) (S.length + 1) (S.length + 1))), (11, .int .i64 t.2.2.2), (12, .int .i64 (t.1 : Nat))]) (fun t => cmM p b S.length t.2.1 t.2.2.1) (fun t => t.1 ≤ S.length ∧ On (2 * t.1) t.1 t.2.1 t.2.2.1 t.2.2.2) (fun t => S.length - t.1) (0, Wh.new n.toNat mb, fun _ => 0, 0) mixed ⟨by dsimp only; omega, on_new (by omega)⟩ (fun _ _ => rfl) rfl (by (repeat (first | exact trivial | refine ⟨⟨rfl, rfl⟩, ?_⟩))) (fun s _ => ⟨by (repeat (first | exact trivial | refine ⟨⟨_, rfl⟩, ?_⟩)), by (repeat (first | exact trivial | refine ⟨⟨_, rfl⟩, ?_⟩))⟩) fun t ht => ?_
    obtain ⟨i, W, D, most⟩ := t
    obtain ⟨hi1, hO⟩ := ht
    dsimp only at hi1 hO ⊢
    have hnow := hO.w.s.now
    have hm0 := hO.m0
    (refine gs ?_)
    by_cases hin : i < S.length
    · have hin' : (i : Int) < ((S.length : Nat) : Int) := by omega
      have ei : IntKind.i64.wrap ((i : Int) + 1) = ((i + 1 : Nat) : Int) := by rw [w64 (by omega) (by omega)]; simp
      have ei2 : IntKind.i64.wrap (100 + (i : Int)) = ((100 + i : Nat) : Int) := by rw [w64 (by omega) (by omega)]; simp
      have hx : S[i]? = some S[i] := List.getElem?_eq_getElem (by omega)
      obtain ⟨ad, rfl⟩ := rd_some in_len (by omega) hR (show 0 < S.length by omega)
      have hSi : i < S.length := by omega
      generalize S[i] = x at hx
      have hd := tm90 x
      (repeat ((first | refine n_must rfl ?_ | refine n_chk (drawF_ok (by decide +kernel)) ?_ | refine n_same rfl ?_ | ((first | refine n_must ?_ ?_ | refine n_brT ?_ ?_); (focus (first | (simp [hin', hSi, hin]; done) | (simp [hin', hSi, hin]; omega) | (simp only [hin', hSi, hin]; simp; done)))) | (refine n_brF ?_ ?_; (focus (first | (simp [hin', hSi, hin]; done) | (simp [hin', hSi, hin]; omega) | (simp only [hin', hSi, hin]; simp; done)))) | refine n_must (by (with_reducible refine and_shape ?_) <;> kernel_rfl) ?_); (refine gs ?_)))
      (refine n_ldA (.int .i64 x) rfl (by first | exact trivial | rfl) rfl (fun _ w1 _ hI1 => in_load (hS1 _ hI1.frm) hx rfl) ?_; (refine gs ?_))
      refine gw ?_
      refine n_callR (Y := Wh) 0 (fun W' => whRes p W') (fun _ => .int .i64 ((i + 1 : Nat) : Int)) (fun _ => .int .i64 ((i + 1 : Nat) : Int)) (fun W' => W'.ok (2 * i + 1) ∧ W'.s = W.s.arm (x.tmod 90) ((100 + i : Nat) : Int) (i : Int) ∧ W'.n = W.n) rfl rfl (fun _ => rfl) rfl rfl rfl (fun _ w1 _ hI1 hR1 => (wArm_ok (d := x.tmod 90) (k := IntKind.i64.wrap (100 + (i : Int))) (i := (i : Int)) hO.w (by omega) hR1).mono fun e w' ⟨W', he, ⟨g1, g2, g3⟩, hp⟩ => ⟨W', by rw [he, hO.last]; rfl, ⟨g1, by rw [g2, ei2], g3⟩, hp⟩) ?_
      rintro W1 ⟨g1, g2, _⟩
      have hO1 := hO.arm (by omega) hd g1 g2
      (refine gs ?_)
      (repeat ((first | refine n_must rfl ?_ | refine n_chk (drawF_ok (by decide +kernel)) ?_ | refine n_same rfl ?_ | ((first | refine n_must ?_ ?_ | refine n_brT ?_ ?_); (focus (first | (simp [ei]; done) | (simp [ei]; omega) | (simp only [ei]; simp; done)))) | (refine n_brF ?_ ?_; (focus (first | (simp [ei]; done) | (simp [ei]; omega) | (simp only [ei]; simp; done)))) | refine n_must (by (with_reducible refine and_shape ?_) <;> kernel_rfl) ?_); (refine gs ?_)))
      have hnow1 : W1.s.now = W.s.now := by rw [g2]; rfl
      refine n_sameP (.int .i64 W.s.now) rfl rfl rfl (fun _ w1 hp1 hI1 => hnow1 ▸ wNow_ok (hI1.res 0 rfl rfl)) ?_; (refine gs ?_)
      have ev : IntKind.i64.wrap (W.s.now + max (x.tmod 90) 1) = W.s.now + max (x.tmod 90) 1 := w64 (by omega) (by omega)
      have hD1 : updD D (i + 1) (W.s.now + max (x.tmod 90) 1) (i + 1) = W.s.now + max (x.tmod 90) 1 := by unfold updD; rw [if_pos rfl]
      (repeat ((first | refine n_must rfl ?_ | refine n_chk (drawF_ok (by decide +kernel)) ?_ | refine n_same rfl ?_ | ((first | refine n_must ?_ ?_ | refine n_brT ?_ ?_); (focus (first | (simp [ei]; done) | (simp [ei]; omega) | (simp only [ei]; simp; done)))) | (refine n_brF ?_ ?_; (focus (first | (simp [ei]; done) | (simp [ei]; omega) | (simp only [ei]; simp; done)))) | refine n_must (by (with_reducible refine and_shape ?_) <;> kernel_rfl) ?_); (refine gs ?_)))
      refine n_storeA (n := b) (off := i + 1) (k := 1) (l := dCells S.length D) (rv := .int .i64 (IntKind.i64.wrap (W.s.now + max (x.tmod 90) 1))) (v := .int .i64 (W.s.now + max (x.tmod 90) 1)) 1 (dRow b S.length (updD D (i + 1) (W.s.now + max (x.tmod 90) 1))) (dCells S.length (updD D (i + 1) (W.s.now + max (x.tmod 90) 1))) rfl rfl rfl (by rw [ei, add_mk]; simp) rfl (by rw [ev]; rfl) sizeInt rfl rfl rfl rfl rfl (by simp [cellsRes]) (fun w h => h) (by simp [dCells]; omega) (dCells_set (by omega)) (fun w w' h hf hb => hb) (by simp [cellsRes]) ?_
      (refine gs ?_)
      (repeat ((first | refine n_must rfl ?_ | refine n_chk (drawF_ok (by decide +kernel)) ?_ | refine n_same rfl ?_ | ((first | refine n_must ?_ ?_ | refine n_brT ?_ ?_); (focus (first | (simp [ei]; done) | (simp [ei]; omega) | (simp only [ei]; simp; done)))) | (refine n_brF ?_ ?_; (focus (first | (simp [ei]; done) | (simp [ei]; omega) | (simp only [ei]; simp; done)))) | refine n_must (by (with_reducible refine and_shape ?_) <;> kernel_rfl) ?_); (refine gs ?_)))
      (refine n_ldA (.int .i64 (W.s.now + max (x.tmod 90) 1)) rfl (by first | exact trivial | rfl) rfl (fun _ w1 _ hI1 => by rw [← hD1]; exact d_load (hI1.res 1 rfl rfl) (j := i + 1) (by omega) (by rw [ei]; simp)) ?_; (refine gs ?_))
      generalize updD D (i + 1) (W.s.now + max (x.tmod 90) 1) = D1 at hO1
      generalize max most (W.s.now + max (x.tmod 90) 1) = most1 at hO1
      by_cases hj : i < T.length
      · have hy : T[i]? = some T[i] := List.getElem?_eq_getElem _
        obtain ⟨ad2, rfl⟩ := rd_some in_len (by omega) hR2 (show 0 < T.length by omega)
        have hy64 := hT _ (List.getElem_mem hj)
        generalize T[i] = y at hy hy64
        (repeat ((first | refine n_must rfl ?_ | refine n_chk (drawF_ok (by decide +kernel)) ?_ | refine n_same rfl ?_ | ((first | refine n_must ?_ ?_ | refine n_brT ?_ ?_); (focus (first | (simp [hj]; done) | (simp [hj]; omega) | (simp only [hj]; simp; done)))) | (refine n_brF ?_ ?_; (focus (first | (simp [hj]; done) | (simp [hj]; omega) | (simp only [hj]; simp; done)))) | refine n_must (by (with_reducible refine and_shape ?_) <;> kernel_rfl) ?_); (refine gs ?_)))
        (refine n_ldA (.int .i64 y) rfl (by first | exact trivial | rfl) rfl (fun _ w1 _ hI1 => in_load (hT1 _ hI1.frm) hy rfl) ?_; (refine gs ?_))
        by_cases k1 : 1 ≤ y
        · by_cases k2 : y ≤ ((i + 1 : Nat) : Int)
          · obtain ⟨k, rfl⟩ := Int.eq_ofNat_of_zero_le (show 0 ≤ y by omega)
            (repeat ((first | refine n_must rfl ?_ | refine n_chk (drawF_ok (by decide +kernel)) ?_ | refine n_same rfl ?_ | ((first | refine n_must ?_ ?_ | refine n_brT ?_ ?_); (focus (first | (simp [k1, k2, ei]; done) | (simp [k1, k2, ei]; omega) | (simp only [k1, k2, ei]; simp; done)))) | (refine n_brF ?_ ?_; (focus (first | (simp [k1, k2, ei]; done) | (simp [k1, k2, ei]; omega) | (simp only [k1, k2, ei]; simp; done)))) | refine n_must (by (with_reducible refine and_shape ?_) <;> kernel_rfl) ?_); (refine gs ?_)))
            (refine n_ldA (.int .i64 (D1 k)) rfl (by first | exact trivial | rfl) rfl (fun _ w1 _ hI1 => d_load (hI1.res 1 rfl rfl) (j := k) (by omega) (by simp)) ?_; (refine gs ?_))
            by_cases k3 : 0 < D1 k
            · as_aux_lemma =>
              have hyes : W1.s.has (k : Int) = true := hO1.has.2 ⟨k - 1, by omega, by rw [show k - 1 + 1 = k by omega]; omega, by rw [show k - 1 + 1 = k by omega]⟩
              (repeat ((first | refine n_must rfl ?_ | refine n_chk (drawF_ok (by decide +kernel)) ?_ | refine n_same rfl ?_ | ((first | refine n_must ?_ ?_ | refine n_brT ?_ ?_); (focus (first | (simp [k3]; done) | (simp [k3]; omega) | (simp only [k3]; simp; done)))) | (refine n_brF ?_ ?_; (focus (first | (simp [k3]; done) | (simp [k3]; omega) | (simp only [k3]; simp; done)))) | refine n_must (by (with_reducible refine and_shape ?_) <;> kernel_rfl) ?_); (refine gs ?_)))
              refine n_callR (Y := Wh) 0 (fun W' => whRes p W') (fun _ => .bool true) (fun _ => .bool true) (fun W' => W'.ok (2 * i + 1) ∧ W'.s = W1.s.cancel (k : Int)) rfl rfl (fun _ => rfl) rfl rfl rfl (fun _ w1 _ hI1 hR1 => (wCancel_ok hO1.w (by omega) hy64 hR1).mono fun e w' ⟨W', he, ⟨q1, q2, _⟩, hp⟩ => ⟨W', by rw [he, hyes], ⟨q1, q2⟩, hp⟩) ?_
              rintro W2 ⟨g3, g4⟩
              have hO2 := hO1.cancel (by omega) g3 g4
              (refine gs ?_)
              (repeat ((first | refine n_must rfl ?_ | refine n_chk (drawF_ok (by decide +kernel)) ?_ | refine n_same rfl ?_ | ((first | refine n_must ?_ ?_ | refine n_brT ?_ ?_); (focus (first | (simp [k3]; done) | (simp [k3]; omega) | (simp only [k3]; simp; done)))) | (refine n_brF ?_ ?_; (focus (first | (simp [k3]; done) | (simp [k3]; omega) | (simp only [k3]; simp; done)))) | refine n_must (by (with_reducible refine and_shape ?_) <;> kernel_rfl) ?_); (refine gs ?_)))
              refine n_storeA (n := b) (off := k) (k := 1) (l := dCells S.length D1) (rv := .int .i64 0) (v := .int .i64 0) 1 (dRow b S.length (updD D1 k 0)) (dCells S.length (updD D1 k 0)) rfl rfl rfl (by rw [add_mk]; simp) rfl rfl sizeInt rfl rfl rfl rfl rfl (by simp [cellsRes]) (fun w h => h) (by simp [dCells]; omega) (dCells_set (by omega)) (fun w w' h hf hb => hb) (by simp [cellsRes]) ?_
              (refine gs ?_)
              by_cases k4 : (i : Int).tmod 4 = 3
              · (repeat ((first | refine n_must rfl ?_ | refine n_chk (drawF_ok (by decide +kernel)) ?_ | refine n_same rfl ?_ | ((first | refine n_must ?_ ?_ | refine n_brT ?_ ?_); (focus (first | (simp [k4, ei]; done) | (simp [k4, ei]; omega) | (simp only [k4, ei]; simp; done)))) | (refine n_brF ?_ ?_; (focus (first | (simp [k4, ei]; done) | (simp [k4, ei]; omega) | (simp only [k4, ei]; simp; done)))) | refine n_must (by (with_reducible refine and_shape ?_) <;> kernel_rfl) ?_); (refine gs ?_)))
                refine n_callM (Y := Wh) [0, 0] (cmM p b S.length W2 (updD D1 k 0)) _ (fun y => cmM p b S.length y (tickD (updD D1 k 0) ((W2).s.now + 1))) (fun _ => .bool true) (fun _ => .bool true) (fun y => y.ok ((2 * i + 1) + 1) ∧ y.s = (W2).s.tick) rfl rfl (fun _ => rfl) rfl ⟨_, rfl⟩ (fun _ _ => .res rfl (.res rfl .nil)) (fun j bl hj => match j, hj with | 0, hj => by cases hj; rfl | 1, hj => by cases hj; rfl) (fun _ _ => rfl) (fun _ w1 _ hI1 hR1 => by
                  rw [ei]
                  exact (came_ok (n := i + 1) (hO2).w (by omega) (hO2).a (by omega) (by omega) (hO2).d0 (hO2).dn hR1).mono fun e w' ⟨y, he, ⟨q1, q2, _⟩, hp⟩ => ⟨y, he, ⟨q1, q2⟩, hp⟩) ?_
                rintro W3 ⟨g5, g6⟩
                have hO3 := (hO2).tick g5 g6
                (refine gs ?_)
                refine gw ?_
                exact n_again ⟨(i + 1, W3, tickD (updD D1 k 0) ((W2).s.now + 1), most1), ⟨by dsimp only; omega, hO3.mono (by dsimp only; omega)⟩, by dsimp only; omega, (by (repeat (first | exact trivial | refine ⟨⟨rfl, rfl⟩, ?_⟩ | refine ⟨⟨rfl, congrArg (SV.int .i64) ei⟩, ?_⟩))), ⟨_, rfl⟩⟩
              · (repeat ((first | refine n_must rfl ?_ | refine n_chk (drawF_ok (by decide +kernel)) ?_ | refine n_same rfl ?_ | ((first | refine n_must ?_ ?_ | refine n_brT ?_ ?_); (focus (first | (simp [k4]; done) | (simp [k4]; omega) | (simp only [k4]; simp; done)))) | (refine n_brF ?_ ?_; (focus (first | (simp [k4]; done) | (simp [k4]; omega) | (simp only [k4]; simp; done)))) | refine n_must (by (with_reducible refine and_shape ?_) <;> kernel_rfl) ?_); (refine gs ?_)))
                exact n_again ⟨(i + 1, W2, (updD D1 k 0), most1), ⟨by dsimp only; omega, (hO2).mono (by dsimp only; omega)⟩, by dsimp only; omega, (by (repeat (first | exact trivial | refine ⟨⟨rfl, rfl⟩, ?_⟩ | refine ⟨⟨rfl, congrArg (SV.int .i64) ei⟩, ?_⟩))), ⟨_, rfl⟩⟩
            · as_aux_lemma =>
              have hno : W1.s.has (k : Int) = false := by
                rw [Bool.eq_false_iff]
                intro h
                obtain ⟨j, _, h2, h3⟩ := hO1.has.1 h
                obtain rfl : j + 1 = k := by omega
                have := hO1.pos (j + 1)
                omega
              (repeat ((first | refine n_must rfl ?_ | refine n_chk (drawF_ok (by decide +kernel)) ?_ | refine n_same rfl ?_ | ((first | refine n_must ?_ ?_ | refine n_brT ?_ ?_); (focus (first | (simp [k3]; done) | (simp [k3]; omega) | (simp only [k3]; simp; done)))) | (refine n_brF ?_ ?_; (focus (first | (simp [k3]; done) | (simp [k3]; omega) | (simp only [k3]; simp; done)))) | refine n_must (by (with_reducible refine and_shape ?_) <;> kernel_rfl) ?_); (refine gs ?_)))
              refine n_callR (Y := Wh) 0 (fun W' => whRes p W') (fun _ => .bool false) (fun _ => .bool false) (fun W' => W'.ok (2 * i + 1) ∧ W'.s = W1.s.cancel (k : Int)) rfl rfl (fun _ => rfl) rfl rfl rfl (fun _ w1 _ hI1 hR1 => (wCancel_ok hO1.w (by omega) hy64 hR1).mono fun e w' ⟨W', he, ⟨q1, q2, _⟩, hp⟩ => ⟨W', by rw [he, hno], ⟨q1, q2⟩, hp⟩) ?_
              rintro W2 ⟨g3, g4⟩
              have hO2 := hO1.idle g3 g4 hno
              (refine gs ?_)
              refine gw ?_
              by_cases k4 : (i : Int).tmod 4 = 3
              · (repeat ((first | refine n_must rfl ?_ | refine n_chk (drawF_ok (by decide +kernel)) ?_ | refine n_same rfl ?_ | ((first | refine n_must ?_ ?_ | refine n_brT ?_ ?_); (focus (first | (simp [k4, ei]; done) | (simp [k4, ei]; omega) | (simp only [k4, ei]; simp; done)))) | (refine n_brF ?_ ?_; (focus (first | (simp [k4, ei]; done) | (simp [k4, ei]; omega) | (simp only [k4, ei]; simp; done)))) | refine n_must (by (with_reducible refine and_shape ?_) <;> kernel_rfl) ?_); (refine gs ?_)))
                refine n_callM (Y := Wh) [0, 0] (cmM p b S.length W2 D1) _ (fun y => cmM p b S.length y (tickD D1 ((W2).s.now + 1))) (fun _ => .bool true) (fun _ => .bool true) (fun y => y.ok ((2 * i + 1) + 1) ∧ y.s = (W2).s.tick) rfl rfl (fun _ => rfl) rfl ⟨_, rfl⟩ (fun _ _ => .res rfl (.res rfl .nil)) (fun j bl hj => match j, hj with | 0, hj => by cases hj; rfl | 1, hj => by cases hj; rfl) (fun _ _ => rfl) (fun _ w1 _ hI1 hR1 => by
                  rw [ei]
                  exact (came_ok (n := i + 1) (hO2).w (by omega) (hO2).a (by omega) (by omega) (hO2).d0 (hO2).dn hR1).mono fun e w' ⟨y, he, ⟨q1, q2, _⟩, hp⟩ => ⟨y, he, ⟨q1, q2⟩, hp⟩) ?_
                rintro W3 ⟨g5, g6⟩
                have hO3 := (hO2).tick g5 g6
                (refine gs ?_)
                refine gw ?_
                exact n_again ⟨(i + 1, W3, tickD D1 ((W2).s.now + 1), most1), ⟨by dsimp only; omega, hO3.mono (by dsimp only; omega)⟩, by dsimp only; omega, (by (repeat (first | exact trivial | refine ⟨⟨rfl, rfl⟩, ?_⟩ | refine ⟨⟨rfl, congrArg (SV.int .i64) ei⟩, ?_⟩))), ⟨_, rfl⟩⟩
              · (repeat ((first | refine n_must rfl ?_ | refine n_chk (drawF_ok (by decide +kernel)) ?_ | refine n_same rfl ?_ | ((first | refine n_must ?_ ?_ | refine n_brT ?_ ?_); (focus (first | (simp [k4]; done) | (simp [k4]; omega) | (simp only [k4]; simp; done)))) | (refine n_brF ?_ ?_; (focus (first | (simp [k4]; done) | (simp [k4]; omega) | (simp only [k4]; simp; done)))) | refine n_must (by (with_reducible refine and_shape ?_) <;> kernel_rfl) ?_); (refine gs ?_)))
                exact n_again ⟨(i + 1, W2, D1, most1), ⟨by dsimp only; omega, (hO2).mono (by dsimp only; omega)⟩, by dsimp only; omega, (by (repeat (first | exact trivial | refine ⟨⟨rfl, rfl⟩, ?_⟩ | refine ⟨⟨rfl, congrArg (SV.int .i64) ei⟩, ?_⟩))), ⟨_, rfl⟩⟩
          · as_aux_lemma =>
            have hno : W1.s.has y = false := by
              rw [Bool.eq_false_iff]
              intro h
              obtain ⟨j, h1, _, h3⟩ := hO1.has.1 h
              omega
            (repeat ((first | refine n_must rfl ?_ | refine n_chk (drawF_ok (by decide +kernel)) ?_ | refine n_same rfl ?_ | ((first | refine n_must ?_ ?_ | refine n_brT ?_ ?_); (focus (first | (simp [k1, k2, ei]; done) | (simp [k1, k2, ei]; omega) | (simp only [k1, k2, ei]; simp; done)))) | (refine n_brF ?_ ?_; (focus (first | (simp [k1, k2, ei]; done) | (simp [k1, k2, ei]; omega) | (simp only [k1, k2, ei]; simp; done)))) | refine n_must (by (with_reducible refine and_shape ?_) <;> kernel_rfl) ?_); (refine gs ?_)))
            refine n_callR (Y := Wh) 0 (fun W' => whRes p W') (fun _ => .bool false) (fun _ => .bool false) (fun W' => W'.ok (2 * i + 1) ∧ W'.s = W1.s.cancel y) rfl rfl (fun _ => rfl) rfl rfl rfl (fun _ w1 _ hI1 hR1 => (wCancel_ok hO1.w (by omega) hy64 hR1).mono fun e w' ⟨W', he, ⟨q1, q2, _⟩, hp⟩ => ⟨W', by rw [he, hno], ⟨q1, q2⟩, hp⟩) ?_
            rintro W2 ⟨g3, g4⟩
            have hO2 := hO1.idle g3 g4 hno
            (refine gs ?_)
            refine gw ?_
            by_cases k4 : (i : Int).tmod 4 = 3
            · (repeat ((first | refine n_must rfl ?_ | refine n_chk (drawF_ok (by decide +kernel)) ?_ | refine n_same rfl ?_ | ((first | refine n_must ?_ ?_ | refine n_brT ?_ ?_); (focus (first | (simp [k4, ei]; done) | (simp [k4, ei]; omega) | (simp only [k4, ei]; simp; done)))) | (refine n_brF ?_ ?_; (focus (first | (simp [k4, ei]; done) | (simp [k4, ei]; omega) | (simp only [k4, ei]; simp; done)))) | refine n_must (by (with_reducible refine and_shape ?_) <;> kernel_rfl) ?_); (refine gs ?_)))
              refine n_callM (Y := Wh) [0, 0] (cmM p b S.length W2 D1) _ (fun y => cmM p b S.length y (tickD D1 ((W2).s.now + 1))) (fun _ => .bool true) (fun _ => .bool true) (fun y => y.ok ((2 * i + 1) + 1) ∧ y.s = (W2).s.tick) rfl rfl (fun _ => rfl) rfl ⟨_, rfl⟩ (fun _ _ => .res rfl (.res rfl .nil)) (fun j bl hj => match j, hj with | 0, hj => by cases hj; rfl | 1, hj => by cases hj; rfl) (fun _ _ => rfl) (fun _ w1 _ hI1 hR1 => by
                rw [ei]
                exact (came_ok (n := i + 1) (hO2).w (by omega) (hO2).a (by omega) (by omega) (hO2).d0 (hO2).dn hR1).mono fun e w' ⟨y, he, ⟨q1, q2, _⟩, hp⟩ => ⟨y, he, ⟨q1, q2⟩, hp⟩) ?_
              rintro W3 ⟨g5, g6⟩
              have hO3 := (hO2).tick g5 g6
              (refine gs ?_)
              refine gw ?_
              exact n_again ⟨(i + 1, W3, tickD D1 ((W2).s.now + 1), most1), ⟨by dsimp only; omega, hO3.mono (by dsimp only; omega)⟩, by dsimp only; omega, (by (repeat (first | exact trivial | refine ⟨⟨rfl, rfl⟩, ?_⟩ | refine ⟨⟨rfl, congrArg (SV.int .i64) ei⟩, ?_⟩))), ⟨_, rfl⟩⟩
            · (repeat ((first | refine n_must rfl ?_ | refine n_chk (drawF_ok (by decide +kernel)) ?_ | refine n_same rfl ?_ | ((first | refine n_must ?_ ?_ | refine n_brT ?_ ?_); (focus (first | (simp [k4]; done) | (simp [k4]; omega) | (simp only [k4]; simp; done)))) | (refine n_brF ?_ ?_; (focus (first | (simp [k4]; done) | (simp [k4]; omega) | (simp only [k4]; simp; done)))) | refine n_must (by (with_reducible refine and_shape ?_) <;> kernel_rfl) ?_); (refine gs ?_)))
              exact n_again ⟨(i + 1, W2, D1, most1), ⟨by dsimp only; omega, (hO2).mono (by dsimp only; omega)⟩, by dsimp only; omega, (by (repeat (first | exact trivial | refine ⟨⟨rfl, rfl⟩, ?_⟩ | refine ⟨⟨rfl, congrArg (SV.int .i64) ei⟩, ?_⟩))), ⟨_, rfl⟩⟩
        · as_aux_lemma =>
          have hno : W1.s.has y = false := by
            rw [Bool.eq_false_iff]
            intro h
            obtain ⟨j, h1, _, h3⟩ := hO1.has.1 h
            omega
          (repeat ((first | refine n_must rfl ?_ | refine n_chk (drawF_ok (by decide +kernel)) ?_ | refine n_same rfl ?_ | ((first | refine n_must ?_ ?_ | refine n_brT ?_ ?_); (focus (first | (simp [k1, ei]; done) | (simp [k1, ei]; omega) | (simp only [k1, ei]; simp; done)))) | (refine n_brF ?_ ?_; (focus (first | (simp [k1, ei]; done) | (simp [k1, ei]; omega) | (simp only [k1, ei]; simp; done)))) | refine n_must (by (with_reducible refine and_shape ?_) <;> kernel_rfl) ?_); (refine gs ?_)))
          refine n_callR (Y := Wh) 0 (fun W' => whRes p W') (fun _ => .bool false) (fun _ => .bool false) (fun W' => W'.ok (2 * i + 1) ∧ W'.s = W1.s.cancel y) rfl rfl (fun _ => rfl) rfl rfl rfl (fun _ w1 _ hI1 hR1 => (wCancel_ok hO1.w (by omega) hy64 hR1).mono fun e w' ⟨W', he, ⟨q1, q2, _⟩, hp⟩ => ⟨W', by rw [he, hno], ⟨q1, q2⟩, hp⟩) ?_
          rintro W2 ⟨g3, g4⟩
          have hO2 := hO1.idle g3 g4 hno
          (refine gs ?_)
          refine gw ?_
          by_cases k4 : (i : Int).tmod 4 = 3
          · (repeat ((first | refine n_must rfl ?_ | refine n_chk (drawF_ok (by decide +kernel)) ?_ | refine n_same rfl ?_ | ((first | refine n_must ?_ ?_ | refine n_brT ?_ ?_); (focus (first | (simp [k4, ei]; done) | (simp [k4, ei]; omega) | (simp only [k4, ei]; simp; done)))) | (refine n_brF ?_ ?_; (focus (first | (simp [k4, ei]; done) | (simp [k4, ei]; omega) | (simp only [k4, ei]; simp; done)))) | refine n_must (by (with_reducible refine and_shape ?_) <;> kernel_rfl) ?_); (refine gs ?_)))
            refine n_callM (Y := Wh) [0, 0] (cmM p b S.length W2 D1) _ (fun y => cmM p b S.length y (tickD D1 ((W2).s.now + 1))) (fun _ => .bool true) (fun _ => .bool true) (fun y => y.ok ((2 * i + 1) + 1) ∧ y.s = (W2).s.tick) rfl rfl (fun _ => rfl) rfl ⟨_, rfl⟩ (fun _ _ => .res rfl (.res rfl .nil)) (fun j bl hj => match j, hj with | 0, hj => by cases hj; rfl | 1, hj => by cases hj; rfl) (fun _ _ => rfl) (fun _ w1 _ hI1 hR1 => by
              rw [ei]
              exact (came_ok (n := i + 1) (hO2).w (by omega) (hO2).a (by omega) (by omega) (hO2).d0 (hO2).dn hR1).mono fun e w' ⟨y, he, ⟨q1, q2, _⟩, hp⟩ => ⟨y, he, ⟨q1, q2⟩, hp⟩) ?_
            rintro W3 ⟨g5, g6⟩
            have hO3 := (hO2).tick g5 g6
            (refine gs ?_)
            refine gw ?_
            exact n_again ⟨(i + 1, W3, tickD D1 ((W2).s.now + 1), most1), ⟨by dsimp only; omega, hO3.mono (by dsimp only; omega)⟩, by dsimp only; omega, (by (repeat (first | exact trivial | refine ⟨⟨rfl, rfl⟩, ?_⟩ | refine ⟨⟨rfl, congrArg (SV.int .i64) ei⟩, ?_⟩))), ⟨_, rfl⟩⟩
          · (repeat ((first | refine n_must rfl ?_ | refine n_chk (drawF_ok (by decide +kernel)) ?_ | refine n_same rfl ?_ | ((first | refine n_must ?_ ?_ | refine n_brT ?_ ?_); (focus (first | (simp [k4]; done) | (simp [k4]; omega) | (simp only [k4]; simp; done)))) | (refine n_brF ?_ ?_; (focus (first | (simp [k4]; done) | (simp [k4]; omega) | (simp only [k4]; simp; done)))) | refine n_must (by (with_reducible refine and_shape ?_) <;> kernel_rfl) ?_); (refine gs ?_)))
            exact n_again ⟨(i + 1, W2, D1, most1), ⟨by dsimp only; omega, (hO2).mono (by dsimp only; omega)⟩, by dsimp only; omega, (by (repeat (first | exact trivial | refine ⟨⟨rfl, rfl⟩, ?_⟩ | refine ⟨⟨rfl, congrArg (SV.int .i64) ei⟩, ?_⟩))), ⟨_, rfl⟩⟩
      · as_aux_lemma =>
        (repeat ((first | refine n_must rfl ?_ | refine n_chk (drawF_ok (by decide +kernel)) ?_ | refine n_same rfl ?_ | ((first | refine n_must ?_ ?_ | refine n_brT ?_ ?_); (focus (first | (simp [hj]; done) | (simp [hj]; omega) | (simp only [hj]; simp; done)))) | (refine n_brF ?_ ?_; (focus (first | (simp [hj]; done) | (simp [hj]; omega) | (simp only [hj]; simp; done)))) | refine n_must (by (with_reducible refine and_shape ?_) <;> kernel_rfl) ?_); (refine gs ?_)))
        by_cases k4 : (i : Int).tmod 4 = 3
        · (repeat ((first | refine n_must rfl ?_ | refine n_chk (drawF_ok (by decide +kernel)) ?_ | refine n_same rfl ?_ | ((first | refine n_must ?_ ?_ | refine n_brT ?_ ?_); (focus (first | (simp [k4, ei]; done) | (simp [k4, ei]; omega) | (simp only [k4, ei]; simp; done)))) | (refine n_brF ?_ ?_; (focus (first | (simp [k4, ei]; done) | (simp [k4, ei]; omega) | (simp only [k4, ei]; simp; done)))) | refine n_must (by (with_reducible refine and_shape ?_) <;> kernel_rfl) ?_); (refine gs ?_)))
          refine n_callM (Y := Wh) [0, 0] (cmM p b S.length W1 D1) _ (fun y => cmM p b S.length y (tickD D1 ((W1).s.now + 1))) (fun _ => .bool true) (fun _ => .bool true) (fun y => y.ok ((2 * i + 1) + 1) ∧ y.s = (W1).s.tick) rfl rfl (fun _ => rfl) rfl ⟨_, rfl⟩ (fun _ _ => .res rfl (.res rfl .nil)) (fun j bl hj => match j, hj with | 0, hj => by cases hj; rfl | 1, hj => by cases hj; rfl) (fun _ _ => rfl) (fun _ w1 _ hI1 hR1 => by
            rw [ei]
            exact (came_ok (n := i + 1) (hO1).w (by omega) (hO1).a (by omega) (by omega) (hO1).d0 (hO1).dn hR1).mono fun e w' ⟨y, he, ⟨q1, q2, _⟩, hp⟩ => ⟨y, he, ⟨q1, q2⟩, hp⟩) ?_
          rintro W3 ⟨g5, g6⟩
          have hO3 := (hO1).tick g5 g6
          (refine gs ?_)
          refine gw ?_
          exact n_again ⟨(i + 1, W3, tickD D1 ((W1).s.now + 1), most1), ⟨by dsimp only; omega, hO3.mono (by dsimp only; omega)⟩, by dsimp only; omega, (by (repeat (first | exact trivial | refine ⟨⟨rfl, rfl⟩, ?_⟩ | refine ⟨⟨rfl, congrArg (SV.int .i64) ei⟩, ?_⟩))), ⟨_, rfl⟩⟩
        · (repeat ((first | refine n_must rfl ?_ | refine n_chk (drawF_ok (by decide +kernel)) ?_ | refine n_same rfl ?_ | ((first | refine n_must ?_ ?_ | refine n_brT ?_ ?_); (focus (first | (simp [k4]; done) | (simp [k4]; omega) | (simp only [k4]; simp; done)))) | (refine n_brF ?_ ?_; (focus (first | (simp [k4]; done) | (simp [k4]; omega) | (simp only [k4]; simp; done)))) | refine n_must (by (with_reducible refine and_shape ?_) <;> kernel_rfl) ?_); (refine gs ?_)))
          exact n_again ⟨(i + 1, W1, D1, most1), ⟨by dsimp only; omega, (hO1).mono (by dsimp only; omega)⟩, by dsimp only; omega, (by (repeat (first | exact trivial | refine ⟨⟨rfl, rfl⟩, ?_⟩ | refine ⟨⟨rfl, congrArg (SV.int .i64) ei⟩, ?_⟩))), ⟨_, rfl⟩⟩
    · as_aux_lemma =>
      obtain rfl : i = S.length := by omega
      (repeat ((first | refine n_must rfl ?_ | refine n_chk (drawF_ok (by decide +kernel)) ?_ | refine n_same rfl ?_ | ((first | refine n_must ?_ ?_ | refine n_brT ?_ ?_); (focus (first | (simp [hin]; done) | (simp [hin]; omega) | (simp only [hin]; simp; done)))) | (refine n_brF ?_ ?_; (focus (first | (simp [hin]; done) | (simp [hin]; omega) | (simp only [hin]; simp; done)))) | refine n_must (by (with_reducible refine and_shape ?_) <;> kernel_rfl) ?_); (refine gs ?_)))
      refine n_exit rfl ?_
      (refine gs ?_)
      refine gw ?_
      refine n_loop (σ := Wh × (Nat → Int) × Nat) (fun t => [(7, .raw (pV p)), (9, .int .i64 ((S.length : Nat) : Int)), (10, .raw (.slice (some ⟨b, 0, none⟩) (S.length + 1) (S.length + 1))), (11, .int .i64 most)]) (fun t => cmM p b S.length t.1 t.2.1) (fun t => On t.2.2 S.length t.1 t.2.1 most ∧ t.2.2 ≤ 120 + t.1.s.now.toNat ∧ t.2.2 ≤ 600) (fun t => (most - t.1.s.now).toNat) (W, D, 2 * S.length) mixed ⟨hO, by dsimp only; omega, by dsimp only; omega⟩ (fun _ _ => rfl) rfl (by (repeat (first | exact trivial | refine ⟨⟨rfl, rfl⟩, ?_⟩))) (fun s _ => ⟨by (repeat (first | exact trivial | refine ⟨⟨_, rfl⟩, ?_⟩)), by (repeat (first | exact trivial | refine ⟨⟨_, rfl⟩, ?_⟩))⟩) fun t ht => ?_
      obtain ⟨W2, D2, K⟩ := t
      obtain ⟨hO2, hK, hK6⟩ := ht
      dsimp only at hO2 hK hK6 ⊢
      have hnow2 := hO2.w.s.now
      (refine gs ?_)
      refine gw ?_
      refine n_sameP (.int .i64 W2.s.now) rfl rfl rfl (fun _ w1 hp1 hI1 => wNow_ok (hI1.res 0 rfl rfl)) ?_; (refine gs ?_)
      by_cases hlt : W2.s.now < most
      · have ek : IntKind.i64.wrap (W2.s.now + 1) = W2.s.now + 1 := w64 (by omega) (by omega)
        (repeat ((first | refine n_must rfl ?_ | refine n_chk (drawF_ok (by decide +kernel)) ?_ | refine n_same rfl ?_ | ((first | refine n_must ?_ ?_ | refine n_brT ?_ ?_); (focus (first | (simp [hlt]; done) | (simp [hlt]; omega) | (simp only [hlt]; simp; done)))) | (refine n_brF ?_ ?_; (focus (first | (simp [hlt]; done) | (simp [hlt]; omega) | (simp only [hlt]; simp; done)))) | refine n_must (by (with_reducible refine and_shape ?_) <;> kernel_rfl) ?_); (refine gs ?_)))
        refine n_sameP (.int .i64 W2.s.now) rfl rfl rfl (fun _ w1 hp1 hI1 => wNow_ok (hI1.res 0 rfl rfl)) ?_; (refine gs ?_)
        refine gw ?_
        refine n_callM (Y := Wh) [0, 0] (cmM p b S.length W2 D2) _ (fun y => cmM p b S.length y (tickD D2 ((W2).s.now + 1))) (fun _ => .bool true) (fun _ => .bool true) (fun y => y.ok (K + 1) ∧ y.s = (W2).s.tick) rfl rfl (fun _ => rfl) rfl ⟨_, rfl⟩ (fun _ _ => .res rfl (.res rfl .nil)) (fun j bl hj => match j, hj with | 0, hj => by cases hj; rfl | 1, hj => by cases hj; rfl) (fun _ _ => rfl) (fun _ w1 _ hI1 hR1 => by
          skip
          exact (came_ok (n := S.length) (hO2).w (by omega) (hO2).a (by omega) (by omega) (hO2).d0 (hO2).dn hR1).mono fun e w' ⟨y, he, ⟨q1, q2, _⟩, hp⟩ => ⟨y, he, ⟨q1, q2⟩, hp⟩) ?_
        rintro W3 ⟨g5, g6⟩
        have hO3 := (hO2).tick g5 g6
        (refine gs ?_)
        have hnow3 : W3.s.now = W2.s.now + 1 := by rw [g6]; rfl
        refine gw ?_
        refine n_sameP (.int .i64 (W2.s.now + 1)) rfl rfl rfl (fun _ w1 hp1 hI1 => hnow3 ▸ wNow_ok (hI1.res 0 rfl rfl)) ?_; (refine gs ?_)
        (repeat ((first | refine n_must rfl ?_ | refine n_chk (drawF_ok (by decide +kernel)) ?_ | refine n_same rfl ?_ | ((first | refine n_must ?_ ?_ | refine n_brT ?_ ?_); (focus (first | (simp [ek]; done) | (simp [ek]; omega) | (simp only [ek]; simp; done)))) | (refine n_brF ?_ ?_; (focus (first | (simp [ek]; done) | (simp [ek]; omega) | (simp only [ek]; simp; done)))) | refine n_must (by (with_reducible refine and_shape ?_) <;> kernel_rfl) ?_); (refine gs ?_)))
        exact n_again ⟨(W3, tickD D2 (W2.s.now + 1), K + 1), ⟨hO3, by dsimp only; omega, by dsimp only; omega⟩, by dsimp only; omega, (by (repeat (first | exact trivial | refine ⟨⟨rfl, rfl⟩, ?_⟩))), ⟨_, rfl⟩⟩
      · (repeat ((first | refine n_must rfl ?_ | refine n_chk (drawF_ok (by decide +kernel)) ?_ | refine n_same rfl ?_ | ((first | refine n_must ?_ ?_ | refine n_brT ?_ ?_); (focus (first | (simp [hlt]; done) | (simp [hlt]; omega) | (simp only [hlt]; simp; done)))) | (refine n_brF ?_ ?_; (focus (first | (simp [hlt]; done) | (simp [hlt]; omega) | (simp only [hlt]; simp; done)))) | refine n_must (by (with_reducible refine and_shape ?_) <;> kernel_rfl) ?_); (refine gs ?_)))
        refine n_exit rfl ?_
        (refine gs ?_)
        refine gw ?_
        have hE := hO2.empty (by omega)
        refine n_callN (fun y : Option Addr × Nat => tRow y.1 0 y.2 []) 54 (fun y => .raw (.slice y.1 0 y.2)) (fun y => .slice y.1 0 y.2) (fun _ => True) rfl rfl rfl (fun _ => rfl) (fun w1 hI1 => (wList_ok hO2.w (by omega) (hI1.res 0 rfl rfl)).mono fun e w' h => by rw [hE] at h; exact h) ?_
        rintro ⟨o3, c3⟩ _ _
        (refine gs ?_)
        refine gw ?_
        refine n_ret0 rfl rfl fun ids' w' hp hI' => ⟨ret_bool (by simp), hI'.frm⟩
end Go.Proofs.Ytjmaddmklogchaa
