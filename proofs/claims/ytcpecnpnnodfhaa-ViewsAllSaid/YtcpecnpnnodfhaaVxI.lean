/- Chapter 9's law: run, where one of the two is not made; or none. -/
import Derived.Test.YtcpecnpnnodfhaaVxH
set_option maxRecDepth 100000
set_option linter.unusedSimpArgs false
set_option linter.unusedVariables false
set_option maxHeartbeats 8000000
namespace Go.Proofs.Ytcpecnpnnodfhaa
open Go.RowKit

theorem run_none {me peer n lo hi : Int} {o : Option Addr} {S : List Oq} {cap : Nat} {w : World} (H : RunH lo hi) (h1 : newErr me n ≠ 0) (h2 : newErr peer n ≠ 0) (hR : (oqRes o S).R w) (hS : ∀ x ∈ S, x.good ∧ (readRes x.vo (vws x.V)).R w) (hl : S.length ≤ 9223372036854775806) :
    Calls Try.prog 10 #[.int .i64 me, .int .i64 peer, .int .i64 n, .slice o S.length cap, .int .i64 lo, .int .i64 hi] w fun e w' => e = .returned (.bool true) ∧ Frm [] w w' := by
  have hI := Inv.nil (P := Try.prog) (N := 113) (S := []) (os := []) w
  have hS1 : ∀ w1, Frm [] w w1 → (oqRes o S).R w1 := fun w1 hf => (oqRes o S).stable _ _ (fun k hk => hf.block k (rd_lt hR k hk) (by simp)) hR
  refine calls_sm (cx 113 [] [] w) (vals := [.int .i64 me, .int .i64 peer, .int .i64 n, .raw (.slice o S.length cap), .int .i64 lo, .int .i64 hi]) mixed Try.func10 rfl rfl rfl hI rfl (st rfl ?_); conv => arg 3; whnf
  refine gw ?_
  refine n_sameP (.bool true) rfl rfl rfl (fun _ w1 hp1 hI1 => alive_ok w1) ?_; (refine gs ?_)
  refine gw ?_
  refine n_sameP (.tup [.nilp, .bool true]) rfl rfl rfl (fun _ w1 hp1 hI1 => made_bad h1 w1) ?_; (refine gs ?_)
  refine gw ?_
  refine n_sameP (.tup [.nilp, .bool true]) rfl rfl rfl (fun _ w1 hp1 hI1 => made_bad h2 w1) ?_; (refine gs ?_)
  refine gw ?_
  refine n_loop1 rfl fun bk => ?_
  refine n_loopX [0, 0, 0, 0, 0] ([⟨69, [.res (bkRes bk bk0)], true⟩] ++ dead5) rfl (fun w1 hI1 => ?_) ?_
  · have g1 := hI1.addR (Frm.refl [] w1) (rowRes 100 3 none 0 0 []) 100 true (rowRes_nil _ _ _) (by simp [rowRes]) (by simp [rowRes])
    have g2 := g1.addR (Frm.refl [] w1) (rowRes 103 3 none 0 0 []) 103 true (rowRes_nil _ _ _) (by simp [rowRes]) (by simp [rowRes])
    have g3 := g2.addR (Frm.refl [] w1) (allRes []) 49 true (all_nil w1) (by simp [allRes]) (by simp [allRes])
    have g4 := g3.addR (Frm.refl [] w1) (allRes []) 47 true (all_nil w1) (by simp [allRes]) (by simp [allRes])
    have g5 := g4.gather (ids0 := [bk, 0, 0, 0, 0]) (mem0 := bkMem bk0) [0, 1, 2, 3, 4] (.blk rfl rfl rfl rfl (.res rfl (.res rfl (.res rfl (.res rfl .nil))))) (by decide) 69
    have g6 := g5.absorb 0 5 (by decide) rfl rfl rfl rfl rfl rfl
    exact g6.lessR 0 (ρ' := bkRes bk bk0) rfl rfl rfl (fun h => ⟨h.2.1, fun x hx => List.mem_append.2 (.inr hx)⟩)
  refine n_loop (σ := Nat) (fun t => [(3, .raw (.slice o S.length cap)), (4, .int .i64 lo), (5, .int .i64 hi), (14, .nilp), (16, .nilp), (18, .ptr 0 0), (19, .int .i64 (t : Nat))]) (fun t => [⟨69, [.res (bkRes bk bk0)], true⟩] ++ dead5) (fun t => t ≤ S.length ∧ t ≤ 200) (fun t => S.length - t) 0 mixed ⟨by omega, by omega⟩ (fun _ _ => rfl) rfl (by (repeat (first | exact trivial | refine ⟨⟨rfl, rfl⟩, ?_⟩))) (fun s _ => ⟨by (repeat (first | exact trivial | refine ⟨⟨_, rfl⟩, ?_⟩)), by (repeat (first | exact trivial | refine ⟨⟨_, rfl⟩, ?_⟩))⟩) fun i ht => ?_
  obtain ⟨hi1, hi2⟩ := ht
  (refine gs ?_)
  by_cases hil : i < S.length
  · by_cases h4 : i < 200
    · have ei : IntKind.i64.wrap ((i : Int) + 1) = ((i + 1 : Nat) : Int) := by rw [w64 (by omega) (by omega)]; simp
      have h4' : (i : Int) < 200 := by omega
      have hx : S[i]? = some S[i] := List.getElem?_eq_getElem _
      obtain ⟨ad, rfl⟩ := rd_some oq_len (by omega) hR (show 0 < S.length by omega)
      generalize S[i] = x at hx
      (repeat ((first | refine n_must rfl ?_ | refine n_chk (drawF_ok (by decide +kernel)) ?_ | refine n_same rfl ?_ | ((first | refine n_must ?_ ?_ | refine n_brT ?_ ?_); (focus (first | (simp [hil, h4']; done) | (simp [hil, h4']; omega) | (simp only [hil, h4']; simp; done)))) | (refine n_brF ?_ ?_; (focus (first | (simp [hil, h4']; done) | (simp [hil, h4']; omega) | (simp only [hil, h4']; simp; done)))) | refine n_must (by (with_reducible refine and_shape ?_) <;> kernel_rfl) ?_); (refine gs ?_)))
      (refine n_ldA (.agg x.sv) rfl (by first | exact trivial | rfl) rfl (fun _ w1 _ hI1 => oq_load (hS1 _ hI1.frm) hx rfl) ?_; (refine gs ?_))
      by_cases hw : x.who = 1
      · (repeat ((first | refine n_must rfl ?_ | refine n_chk (drawF_ok (by decide +kernel)) ?_ | refine n_same rfl ?_ | ((first | refine n_must ?_ ?_ | refine n_brT ?_ ?_); (focus (first | (simp [hw]; done) | (simp [hw]; omega) | (simp only [hw]; simp; done)))) | (refine n_brF ?_ ?_; (focus (first | (simp [hw]; done) | (simp [hw]; omega) | (simp only [hw]; simp; done)))) | refine n_must (by (with_reducible refine and_shape ?_) <;> kernel_rfl) ?_); (refine gs ?_)))
        exact n_again ⟨i + 1, ⟨by omega, by omega⟩, by omega, (by (repeat (first | exact trivial | refine ⟨⟨rfl, rfl⟩, ?_⟩ | refine ⟨⟨rfl, congrArg (SV.int .i64) ei⟩, ?_⟩))), ⟨_, rfl⟩⟩
      · (repeat ((first | refine n_must rfl ?_ | refine n_chk (drawF_ok (by decide +kernel)) ?_ | refine n_same rfl ?_ | ((first | refine n_must ?_ ?_ | refine n_brT ?_ ?_); (focus (first | (simp [hw]; done) | (simp [hw]; omega) | (simp only [hw]; simp; done)))) | (refine n_brF ?_ ?_; (focus (first | (simp [hw]; done) | (simp [hw]; omega) | (simp only [hw]; simp; done)))) | refine n_must (by (with_reducible refine and_shape ?_) <;> kernel_rfl) ?_); (refine gs ?_)))
        exact n_again ⟨i + 1, ⟨by omega, by omega⟩, by omega, (by (repeat (first | exact trivial | refine ⟨⟨rfl, rfl⟩, ?_⟩ | refine ⟨⟨rfl, congrArg (SV.int .i64) ei⟩, ?_⟩))), ⟨_, rfl⟩⟩
    · have h4' : ¬ (i : Int) < 200 := by omega
      (repeat ((first | refine n_must rfl ?_ | refine n_chk (drawF_ok (by decide +kernel)) ?_ | refine n_same rfl ?_ | ((first | refine n_must ?_ ?_ | refine n_brT ?_ ?_); (focus (first | (simp [hil, h4']; done) | (simp [hil, h4']; omega) | (simp only [hil, h4']; simp; done)))) | (refine n_brF ?_ ?_; (focus (first | (simp [hil, h4']; done) | (simp [hil, h4']; omega) | (simp only [hil, h4']; simp; done)))) | refine n_must (by (with_reducible refine and_shape ?_) <;> kernel_rfl) ?_); (refine gs ?_)))
      refine n_exit rfl ?_
      (refine gs ?_)
      refine gw ?_
      refine n_callR (Y := Unit) 0 (fun _ => Res.none) (fun _ => .bool true) (fun _ => .bool true) (fun _ => True) rfl rfl (fun _ => rfl) rfl rfl rfl (fun _ w1 _ hI1 hR1 => (H.apart bk0_ok (by omega) (fun _ => rfl) hR1).mono fun e w' ⟨he, hf⟩ => ⟨(), he, trivial, hf, trivial, by simp [Res.none], by simp [Res.none]⟩) ?_
      intro _ _
      (refine gs ?_)
      refine gw ?_
      exact n_ret0 rfl rfl fun ids' w' hp hI' => ⟨rfl, hI'.frm⟩
  · (repeat ((first | refine n_must rfl ?_ | refine n_chk (drawF_ok (by decide +kernel)) ?_ | refine n_same rfl ?_ | ((first | refine n_must ?_ ?_ | refine n_brT ?_ ?_); (focus (first | (simp [hil]; done) | (simp [hil]; omega) | (simp only [hil]; simp; done)))) | (refine n_brF ?_ ?_; (focus (first | (simp [hil]; done) | (simp [hil]; omega) | (simp only [hil]; simp; done)))) | refine n_must (by (with_reducible refine and_shape ?_) <;> kernel_rfl) ?_); (refine gs ?_)))
    refine n_exit rfl ?_
    (refine gs ?_)
    refine gw ?_
    refine n_callR (Y := Unit) 0 (fun _ => Res.none) (fun _ => .bool true) (fun _ => .bool true) (fun _ => True) rfl rfl (fun _ => rfl) rfl rfl rfl (fun _ w1 _ hI1 hR1 => (H.apart bk0_ok (by omega) (fun _ => rfl) hR1).mono fun e w' ⟨he, hf⟩ => ⟨(), he, trivial, hf, trivial, by simp [Res.none], by simp [Res.none]⟩) ?_
    intro _ _
    (refine gs ?_)
    refine gw ?_
    exact n_ret0 rfl rfl fun ids' w' hp hI' => ⟨rfl, hI'.frm⟩
theorem run_a {me peer n lo hi : Int} {o : Option Addr} {S : List Oq} {cap : Nat} {w : World} (H : RunH lo hi) (h1 : newErr me n = 0) (h2 : newErr peer n ≠ 0) (hR : (oqRes o S).R w) (hS : ∀ x ∈ S, x.good ∧ (readRes x.vo (vws x.V)).R w) (hl : S.length ≤ 9223372036854775806) :
    Calls Try.prog 10 #[.int .i64 me, .int .i64 peer, .int .i64 n, .slice o S.length cap, .int .i64 lo, .int .i64 hi] w fun e w' => e = .returned (.bool true) ∧ Frm [] w w' := by
  have hI := Inv.nil (P := Try.prog) (N := 113) (S := []) (os := []) w
  have hS1 : ∀ w1, Frm [] w w1 → (oqRes o S).R w1 := fun w1 hf => (oqRes o S).stable _ _ (fun k hk => hf.block k (rd_lt hR k hk) (by simp)) hR
  obtain ⟨q1, q2, q3, q4⟩ := newErr_0 h1
  refine calls_sm (cx 113 [] [] w) (vals := [.int .i64 me, .int .i64 peer, .int .i64 n, .raw (.slice o S.length cap), .int .i64 lo, .int .i64 hi]) mixed Try.func10 rfl rfl rfl hI rfl (st rfl ?_); conv => arg 3; whnf
  refine gw ?_
  refine n_sameP (.bool true) rfl rfl rfl (fun _ w1 hp1 hI1 => alive_ok w1) ?_; (refine gs ?_)
  refine gw ?_
  refine n_callN (fun y : Nat × Nat × Nat × Nat × Nat × Nat => pqRes y.1 y.2.1 (Pq.new y.2.2.1 y.2.2.2.1 y.2.2.2.2.1 y.2.2.2.2.2 me n.toNat)) 72 (fun y => .tup [.raw (pV y.1), .bool true]) (fun y => .tuple #[pV y.1, .bool true]) (fun _ => True) rfl rfl rfl (fun _ => rfl) (fun w1 hI1 => made_good h1 w1) ?_
  rintro ⟨a, ka, va, ma, na, qa⟩ _ _
  dsimp only
  have hP := pq_new_ok (v := va) (mb := ma) (nb := na) (q := qa) (me := me) (n := n.toNat) (by omega) (by omega)
  generalize Pq.new va ma na qa me n.toNat = P at hP
  (refine gs ?_)
  refine gw ?_
  refine n_sameP (.tup [.nilp, .bool true]) rfl rfl rfl (fun _ w1 hp1 hI1 => made_bad h2 w1) ?_; (refine gs ?_)
  refine gw ?_
  refine n_op1 rfl fun bk => ?_
  refine n_storeA (n := a) (off := 4) (k := 1) (ty := 72) (l := [pV (P).v, pV (P).q, .slice (P).dg.1 (P).dg.2.1 (P).dg.2.2, .slice (P).kn.1 (P).kn.2.1 (P).kn.2.2, pV ka]) (v := pV bk) 0 (ρ := pqRes a ka P) (pqRes a bk P) [pV (P).v, pV (P).q, .slice (P).dg.1 (P).dg.2.1 (P).dg.2.2, .slice (P).kn.1 (P).kn.2.1 (P).kn.2.2, pV bk] rfl rfl rfl (by rw [add_mk]; rfl) rfl rfl sizePb rfl rfl rfl rfl rfl (by simp [memRes, fpsOf, fpOf, resOf]) (fun w h => memRes_blk h 0 rfl rfl rfl) (by simp) rfl (fun w w' h hf hb => pq_bk h hf hb) (fun x h => h) ?_
  (refine gs ?_)
  refine gw ?_
  refine n_loopX [0, 0, 0, 0, 0] (olM a bk P bk0 ++ dead5) rfl (fun w1 hI1 => ?_) ?_
  · have g1 := hI1.addR (Frm.refl [] w1) (rowRes 100 3 none 0 0 []) 100 true (rowRes_nil _ _ _) (by simp [rowRes]) (by simp [rowRes])
    have g2 := g1.addR (Frm.refl [] w1) (rowRes 103 3 none 0 0 []) 103 true (rowRes_nil _ _ _) (by simp [rowRes]) (by simp [rowRes])
    have g3 := g2.addR (Frm.refl [] w1) (allRes []) 49 true (all_nil w1) (by simp [allRes]) (by simp [allRes])
    have g4 := g3.addR (Frm.refl [] w1) (allRes []) 47 true (all_nil w1) (by simp [allRes]) (by simp [allRes])
    have g5 := g4.gather (ids0 := [bk, 0, 0, 0, 0]) (mem0 := bkMem bk0) [1, 2, 3, 4, 5] (.blk rfl rfl rfl rfl (.res rfl (.res rfl (.res rfl (.res rfl .nil))))) (by decide) 69
    have g6 := g5.absorb 1 6 (by decide) rfl rfl rfl rfl rfl rfl
    exact g6.lessR 1 (ρ' := bkRes bk bk0) rfl rfl rfl (fun h => ⟨h.2.1, fun x hx => List.mem_append.2 (.inr hx)⟩)
  refine n_loop (σ := Nat × Pq × Bk) (fun t => [(3, .raw (.slice o S.length cap)), (4, .int .i64 lo), (5, .int .i64 hi), (14, .raw (pV a)), (16, .nilp), (18, .ptr 1 0), (19, .int .i64 (t.1 : Nat))]) (fun t => olM a bk t.2.1 t.2.2 ++ dead5) (fun t => t.1 ≤ S.length ∧ t.1 ≤ 200 ∧ t.2.1.ok n.toNat t.1 ∧ t.2.2.ok t.1 ∧ (Nb lo hi → t.2.2 = bk0)) (fun t => S.length - t.1) (0, P, bk0) mixed ⟨by dsimp only; omega, by dsimp only; omega, hP, bk0_ok, fun _ => rfl⟩ (fun _ _ => rfl) rfl (by (repeat (first | exact trivial | refine ⟨⟨rfl, rfl⟩, ?_⟩))) (fun s _ => ⟨by (repeat (first | exact trivial | refine ⟨⟨_, rfl⟩, ?_⟩)), by (repeat (first | exact trivial | refine ⟨⟨_, rfl⟩, ?_⟩))⟩) fun t ht => ?_
  obtain ⟨i, P1, B1⟩ := t
  obtain ⟨hi1, hi2, hP1, hB1, hE1⟩ := ht
  dsimp only at hi1 hi2 hP1 hB1 hE1 ⊢
  (refine gs ?_)
  by_cases hil : i < S.length
  · by_cases h4 : i < 200
    · have ei : IntKind.i64.wrap ((i : Int) + 1) = ((i + 1 : Nat) : Int) := by rw [w64 (by omega) (by omega)]; simp
      have h4' : (i : Int) < 200 := by omega
      have hx : S[i]? = some S[i] := List.getElem?_eq_getElem _
      obtain ⟨ad, rfl⟩ := rd_some oq_len (by omega) hR (show 0 < S.length by omega)
      obtain ⟨hg, hgV⟩ := hS _ (List.getElem_mem hil)
      generalize S[i] = x at hx hg hgV
      have hVlt := rd_lt hgV
      have hV1 : ∀ w1, Frm [] w w1 → (readRes x.vo (vws x.V)).R w1 := fun w1 hf => (readRes x.vo (vws x.V)).stable _ _ (fun k hk => hf.block k (hVlt k hk) (by simp)) hgV
      (repeat ((first | refine n_must rfl ?_ | refine n_chk (drawF_ok (by decide +kernel)) ?_ | refine n_same rfl ?_ | ((first | refine n_must ?_ ?_ | refine n_brT ?_ ?_); (focus (first | (simp [hil, h4']; done) | (simp [hil, h4']; omega) | (simp only [hil, h4']; simp; done)))) | (refine n_brF ?_ ?_; (focus (first | (simp [hil, h4']; done) | (simp [hil, h4']; omega) | (simp only [hil, h4']; simp; done)))) | refine n_must (by (with_reducible refine and_shape ?_) <;> kernel_rfl) ?_); (refine gs ?_)))
      (refine n_ldA (.agg x.sv) rfl (by first | exact trivial | rfl) rfl (fun _ w1 _ hI1 => oq_load (hS1 _ hI1.frm) hx rfl) ?_; (refine gs ?_))
      have hap : ∀ {ids' : List Nat} {w1 : World} {mem' : Mem}, Inv (cx 113 [] [] w) w1 ids' mem' → Sel true ids' mem' [0, 1] [0, bk] (olM a bk P1 B1) → ∀ k ∈ (olRes bk a bk P1 B1).fp, k ∉ (readRes x.vo (vws x.V)).fp := fun hI1 hs k hk hk2 => by
        have h1 := (memRes_shut hI1 [0, 1] hs (by decide)).2 k hk
        have h2 := hVlt k hk2
        rcases h1 with h1 | h1
        · cases h1
        · have h1 : w.heap.size ≤ k := h1
          omega
      by_cases hw : x.who = 1
      case pos =>
        as_aux_lemma =>
        (repeat ((first | refine n_must rfl ?_ | refine n_chk (drawF_ok (by decide +kernel)) ?_ | refine n_same rfl ?_ | ((first | refine n_must ?_ ?_ | refine n_brT ?_ ?_); (focus (first | (simp [hw]; done) | (simp [hw]; omega) | (simp only [hw]; simp; done)))) | (refine n_brF ?_ ?_; (focus (first | (simp [hw]; done) | (simp [hw]; omega) | (simp only [hw]; simp; done)))) | refine n_must (by (with_reducible refine and_shape ?_) <;> kernel_rfl) ?_); (refine gs ?_)))
        exact n_again ⟨(i + 1, P1, B1), ⟨by dsimp only; omega, by dsimp only; omega, hP1.mono (Nat.le_succ _), hB1.mono (Nat.le_succ _), hE1⟩, by dsimp only; omega, (by (repeat (first | exact trivial | refine ⟨⟨rfl, rfl⟩, ?_⟩ | refine ⟨⟨rfl, congrArg (SV.int .i64) ei⟩, ?_⟩))), ⟨_, rfl⟩⟩
      case neg =>
        by_cases c3 : 3 ≤ x.k
        · by_cases c5 : x.k ≤ 5
          · by_cases cl : x.k < lo
            · as_aux_lemma =>
              (repeat ((first | refine n_must rfl ?_ | refine n_chk (drawF_ok (by decide +kernel)) ?_ | refine n_same rfl ?_ | ((first | refine n_must ?_ ?_ | refine n_brT ?_ ?_); (focus (first | (simp [hw, c3, c5, cl]; done) | (simp [hw, c3, c5, cl]; omega) | (simp only [hw, c3, c5, cl]; simp; done)))) | (refine n_brF ?_ ?_; (focus (first | (simp [hw, c3, c5, cl]; done) | (simp [hw, c3, c5, cl]; omega) | (simp only [hw, c3, c5, cl]; simp; done)))) | refine n_must (by (with_reducible refine and_shape ?_) <;> kernel_rfl) ?_); (refine gs ?_)))
              exact n_again ⟨(i + 1, P1, B1), ⟨by dsimp only; omega, by dsimp only; omega, hP1.mono (Nat.le_succ _), hB1.mono (Nat.le_succ _), hE1⟩, by dsimp only; omega, (by (repeat (first | exact trivial | refine ⟨⟨rfl, rfl⟩, ?_⟩ | refine ⟨⟨rfl, congrArg (SV.int .i64) ei⟩, ?_⟩))), ⟨_, rfl⟩⟩
            · by_cases ch : hi < x.k
              · as_aux_lemma =>
                (repeat ((first | refine n_must rfl ?_ | refine n_chk (drawF_ok (by decide +kernel)) ?_ | refine n_same rfl ?_ | ((first | refine n_must ?_ ?_ | refine n_brT ?_ ?_); (focus (first | (simp [hw, c3, c5, cl, ch]; done) | (simp [hw, c3, c5, cl, ch]; omega) | (simp only [hw, c3, c5, cl, ch]; simp; done)))) | (refine n_brF ?_ ?_; (focus (first | (simp [hw, c3, c5, cl, ch]; done) | (simp [hw, c3, c5, cl, ch]; omega) | (simp only [hw, c3, c5, cl, ch]; simp; done)))) | refine n_must (by (with_reducible refine and_shape ?_) <;> kernel_rfl) ?_); (refine gs ?_)))
                exact n_again ⟨(i + 1, P1, B1), ⟨by dsimp only; omega, by dsimp only; omega, hP1.mono (Nat.le_succ _), hB1.mono (Nat.le_succ _), hE1⟩, by dsimp only; omega, (by (repeat (first | exact trivial | refine ⟨⟨rfl, rfl⟩, ?_⟩ | refine ⟨⟨rfl, congrArg (SV.int .i64) ei⟩, ?_⟩))), ⟨_, rfl⟩⟩
              · as_aux_lemma =>
                (repeat ((first | refine n_must rfl ?_ | refine n_chk (drawF_ok (by decide +kernel)) ?_ | refine n_same rfl ?_ | ((first | refine n_must ?_ ?_ | refine n_brT ?_ ?_); (focus (first | (simp [hw, c3, c5, cl, ch]; done) | (simp [hw, c3, c5, cl, ch]; omega) | (simp only [hw, c3, c5, cl, ch]; simp; done)))) | (refine n_brF ?_ ?_; (focus (first | (simp [hw, c3, c5, cl, ch]; done) | (simp [hw, c3, c5, cl, ch]; omega) | (simp only [hw, c3, c5, cl, ch]; simp; done)))) | refine n_must (by (with_reducible refine and_shape ?_) <;> kernel_rfl) ?_); (refine gs ?_)))
                refine n_callM (Y := Pq × Bk) [0, bk] (olM a bk P1 B1) _ (fun y => olM a bk y.1 y.2) (fun _ => .bool true) (fun _ => .bool true) (fun y => y.1.ok n.toNat (i + 1) ∧ y.2.ok (i + 1) ∧ (y.2 = B1 ∨ x.k = 3 ∨ x.k = 5)) rfl rfl (fun _ => rfl) rfl ⟨_, rfl⟩ (fun _ _ => .res rfl (.res rfl .nil)) (fun j bl hj => match j, hj with | 0, hj => by cases hj; rfl | 1, hj => by cases hj; rfl) (fun _ _ => rfl) (fun _ w1 _ hI1 hR1 => played2_ok hP1 hB1 (by omega) hg hR1 (hV1 _ hI1.frm) (hap hI1 (.res rfl (.res rfl .nil))) (fun h => H.dig (by omega) (by omega) hP1 hB1 (by omega)) (fun h => H.knw (by omega) (by omega) hP1 hB1 (by omega) hg.nm)) ?_
                rintro ⟨P2, B2⟩ ⟨hP2, hB2, hBk⟩
                dsimp only at hP2 hB2 hBk ⊢
                (refine gs ?_)
                refine gw ?_
                exact n_again ⟨(i + 1, P2, B2), ⟨by dsimp only; omega, by dsimp only; omega, hP2, hB2, nb_next hE1 hBk (fun _ _ => by omega)⟩, by dsimp only; omega, (by (repeat (first | exact trivial | refine ⟨⟨rfl, rfl⟩, ?_⟩ | refine ⟨⟨rfl, congrArg (SV.int .i64) ei⟩, ?_⟩))), ⟨_, rfl⟩⟩
          · as_aux_lemma =>
            (repeat ((first | refine n_must rfl ?_ | refine n_chk (drawF_ok (by decide +kernel)) ?_ | refine n_same rfl ?_ | ((first | refine n_must ?_ ?_ | refine n_brT ?_ ?_); (focus (first | (simp [hw, c3, c5]; done) | (simp [hw, c3, c5]; omega) | (simp only [hw, c3, c5]; simp; done)))) | (refine n_brF ?_ ?_; (focus (first | (simp [hw, c3, c5]; done) | (simp [hw, c3, c5]; omega) | (simp only [hw, c3, c5]; simp; done)))) | refine n_must (by (with_reducible refine and_shape ?_) <;> kernel_rfl) ?_); (refine gs ?_)))
            refine n_callM (Y := Pq × Bk) [0, bk] (olM a bk P1 B1) _ (fun y => olM a bk y.1 y.2) (fun _ => .bool true) (fun _ => .bool true) (fun y => y.1.ok n.toNat (i + 1) ∧ y.2.ok (i + 1) ∧ (y.2 = B1 ∨ x.k = 3 ∨ x.k = 5)) rfl rfl (fun _ => rfl) rfl ⟨_, rfl⟩ (fun _ _ => .res rfl (.res rfl .nil)) (fun j bl hj => match j, hj with | 0, hj => by cases hj; rfl | 1, hj => by cases hj; rfl) (fun _ _ => rfl) (fun _ w1 _ hI1 hR1 => played2_ok hP1 hB1 (by omega) hg hR1 (hV1 _ hI1.frm) (hap hI1 (.res rfl (.res rfl .nil))) (fun h => (by exfalso; omega)) (fun h => (by exfalso; omega))) ?_
            rintro ⟨P2, B2⟩ ⟨hP2, hB2, hBk⟩
            dsimp only at hP2 hB2 hBk ⊢
            (refine gs ?_)
            refine gw ?_
            exact n_again ⟨(i + 1, P2, B2), ⟨by dsimp only; omega, by dsimp only; omega, hP2, hB2, nb_next hE1 hBk (fun _ _ => by omega)⟩, by dsimp only; omega, (by (repeat (first | exact trivial | refine ⟨⟨rfl, rfl⟩, ?_⟩ | refine ⟨⟨rfl, congrArg (SV.int .i64) ei⟩, ?_⟩))), ⟨_, rfl⟩⟩
        · as_aux_lemma =>
          (repeat ((first | refine n_must rfl ?_ | refine n_chk (drawF_ok (by decide +kernel)) ?_ | refine n_same rfl ?_ | ((first | refine n_must ?_ ?_ | refine n_brT ?_ ?_); (focus (first | (simp [hw, c3]; done) | (simp [hw, c3]; omega) | (simp only [hw, c3]; simp; done)))) | (refine n_brF ?_ ?_; (focus (first | (simp [hw, c3]; done) | (simp [hw, c3]; omega) | (simp only [hw, c3]; simp; done)))) | refine n_must (by (with_reducible refine and_shape ?_) <;> kernel_rfl) ?_); (refine gs ?_)))
          refine n_callM (Y := Pq × Bk) [0, bk] (olM a bk P1 B1) _ (fun y => olM a bk y.1 y.2) (fun _ => .bool true) (fun _ => .bool true) (fun y => y.1.ok n.toNat (i + 1) ∧ y.2.ok (i + 1) ∧ (y.2 = B1 ∨ x.k = 3 ∨ x.k = 5)) rfl rfl (fun _ => rfl) rfl ⟨_, rfl⟩ (fun _ _ => .res rfl (.res rfl .nil)) (fun j bl hj => match j, hj with | 0, hj => by cases hj; rfl | 1, hj => by cases hj; rfl) (fun _ _ => rfl) (fun _ w1 _ hI1 hR1 => played2_ok hP1 hB1 (by omega) hg hR1 (hV1 _ hI1.frm) (hap hI1 (.res rfl (.res rfl .nil))) (fun h => (by exfalso; omega)) (fun h => (by exfalso; omega))) ?_
          rintro ⟨P2, B2⟩ ⟨hP2, hB2, hBk⟩
          dsimp only at hP2 hB2 hBk ⊢
          (refine gs ?_)
          refine gw ?_
          exact n_again ⟨(i + 1, P2, B2), ⟨by dsimp only; omega, by dsimp only; omega, hP2, hB2, nb_next hE1 hBk (fun _ _ => by omega)⟩, by dsimp only; omega, (by (repeat (first | exact trivial | refine ⟨⟨rfl, rfl⟩, ?_⟩ | refine ⟨⟨rfl, congrArg (SV.int .i64) ei⟩, ?_⟩))), ⟨_, rfl⟩⟩
    · have h4' : ¬ (i : Int) < 200 := by omega
      (repeat ((first | refine n_must rfl ?_ | refine n_chk (drawF_ok (by decide +kernel)) ?_ | refine n_same rfl ?_ | ((first | refine n_must ?_ ?_ | refine n_brT ?_ ?_); (focus (first | (simp [hil, h4']; done) | (simp [hil, h4']; omega) | (simp only [hil, h4']; simp; done)))) | (refine n_brF ?_ ?_; (focus (first | (simp [hil, h4']; done) | (simp [hil, h4']; omega) | (simp only [hil, h4']; simp; done)))) | refine n_must (by (with_reducible refine and_shape ?_) <;> kernel_rfl) ?_); (refine gs ?_)))
      refine n_exit rfl ?_
      (refine gs ?_)
      refine gw ?_
      refine n_callR (Y := Unit) 1 (fun _ => Res.none) (fun _ => .bool true) (fun _ => .bool true) (fun _ => True) rfl rfl (fun _ => rfl) rfl rfl rfl (fun _ w1 _ hI1 hR1 => (H.apart hB1 (by omega) hE1 hR1).mono fun e w' ⟨he, hf⟩ => ⟨(), he, trivial, hf, trivial, by simp [Res.none], by simp [Res.none]⟩) ?_
      intro _ _
      (refine gs ?_)
      refine gw ?_
      exact n_ret0 rfl rfl fun ids' w' hp hI' => ⟨rfl, hI'.frm⟩
  · (repeat ((first | refine n_must rfl ?_ | refine n_chk (drawF_ok (by decide +kernel)) ?_ | refine n_same rfl ?_ | ((first | refine n_must ?_ ?_ | refine n_brT ?_ ?_); (focus (first | (simp [hil]; done) | (simp [hil]; omega) | (simp only [hil]; simp; done)))) | (refine n_brF ?_ ?_; (focus (first | (simp [hil]; done) | (simp [hil]; omega) | (simp only [hil]; simp; done)))) | refine n_must (by (with_reducible refine and_shape ?_) <;> kernel_rfl) ?_); (refine gs ?_)))
    refine n_exit rfl ?_
    (refine gs ?_)
    refine gw ?_
    refine n_callR (Y := Unit) 1 (fun _ => Res.none) (fun _ => .bool true) (fun _ => .bool true) (fun _ => True) rfl rfl (fun _ => rfl) rfl rfl rfl (fun _ w1 _ hI1 hR1 => (H.apart hB1 (by omega) hE1 hR1).mono fun e w' ⟨he, hf⟩ => ⟨(), he, trivial, hf, trivial, by simp [Res.none], by simp [Res.none]⟩) ?_
    intro _ _
    (refine gs ?_)
    refine gw ?_
    exact n_ret0 rfl rfl fun ids' w' hp hI' => ⟨rfl, hI'.frm⟩
theorem run_b {me peer n lo hi : Int} {o : Option Addr} {S : List Oq} {cap : Nat} {w : World} (H : RunH lo hi) (h1 : newErr me n ≠ 0) (h2 : newErr peer n = 0) (hR : (oqRes o S).R w) (hS : ∀ x ∈ S, x.good ∧ (readRes x.vo (vws x.V)).R w) (hl : S.length ≤ 9223372036854775806) :
    Calls Try.prog 10 #[.int .i64 me, .int .i64 peer, .int .i64 n, .slice o S.length cap, .int .i64 lo, .int .i64 hi] w fun e w' => e = .returned (.bool true) ∧ Frm [] w w' := by
  have hI := Inv.nil (P := Try.prog) (N := 113) (S := []) (os := []) w
  have hS1 : ∀ w1, Frm [] w w1 → (oqRes o S).R w1 := fun w1 hf => (oqRes o S).stable _ _ (fun k hk => hf.block k (rd_lt hR k hk) (by simp)) hR
  obtain ⟨q5, q6, q7, q8⟩ := newErr_0 h2
  refine calls_sm (cx 113 [] [] w) (vals := [.int .i64 me, .int .i64 peer, .int .i64 n, .raw (.slice o S.length cap), .int .i64 lo, .int .i64 hi]) mixed Try.func10 rfl rfl rfl hI rfl (st rfl ?_); conv => arg 3; whnf
  refine gw ?_
  refine n_sameP (.bool true) rfl rfl rfl (fun _ w1 hp1 hI1 => alive_ok w1) ?_; (refine gs ?_)
  refine gw ?_
  refine n_sameP (.tup [.nilp, .bool true]) rfl rfl rfl (fun _ w1 hp1 hI1 => made_bad h1 w1) ?_; (refine gs ?_)
  refine gw ?_
  refine n_callN (fun y : Nat × Nat × Nat × Nat × Nat × Nat => pqRes y.1 y.2.1 (Pq.new y.2.2.1 y.2.2.2.1 y.2.2.2.2.1 y.2.2.2.2.2 peer n.toNat)) 72 (fun y => .tup [.raw (pV y.1), .bool true]) (fun y => .tuple #[pV y.1, .bool true]) (fun _ => True) rfl rfl rfl (fun _ => rfl) (fun w1 hI1 => made_good h2 w1) ?_
  rintro ⟨a, ka, va, ma, na, qa⟩ _ _
  dsimp only
  have hP := pq_new_ok (v := va) (mb := ma) (nb := na) (q := qa) (me := peer) (n := n.toNat) (by omega) (by omega)
  generalize Pq.new va ma na qa peer n.toNat = P at hP
  (refine gs ?_)
  refine gw ?_
  refine n_op1 rfl fun bk => ?_
  refine n_storeA (n := a) (off := 4) (k := 1) (ty := 72) (l := [pV (P).v, pV (P).q, .slice (P).dg.1 (P).dg.2.1 (P).dg.2.2, .slice (P).kn.1 (P).kn.2.1 (P).kn.2.2, pV ka]) (v := pV bk) 0 (ρ := pqRes a ka P) (pqRes a bk P) [pV (P).v, pV (P).q, .slice (P).dg.1 (P).dg.2.1 (P).dg.2.2, .slice (P).kn.1 (P).kn.2.1 (P).kn.2.2, pV bk] rfl rfl rfl (by rw [add_mk]; rfl) rfl rfl sizePb rfl rfl rfl rfl rfl (by simp [memRes, fpsOf, fpOf, resOf]) (fun w h => memRes_blk h 0 rfl rfl rfl) (by simp) rfl (fun w w' h hf hb => pq_bk h hf hb) (fun x h => h) ?_
  (refine gs ?_)
  refine gw ?_
  refine n_loopX [0, 0, 0, 0, 0] (olM a bk P bk0 ++ dead5) rfl (fun w1 hI1 => ?_) ?_
  · have g1 := hI1.addR (Frm.refl [] w1) (rowRes 100 3 none 0 0 []) 100 true (rowRes_nil _ _ _) (by simp [rowRes]) (by simp [rowRes])
    have g2 := g1.addR (Frm.refl [] w1) (rowRes 103 3 none 0 0 []) 103 true (rowRes_nil _ _ _) (by simp [rowRes]) (by simp [rowRes])
    have g3 := g2.addR (Frm.refl [] w1) (allRes []) 49 true (all_nil w1) (by simp [allRes]) (by simp [allRes])
    have g4 := g3.addR (Frm.refl [] w1) (allRes []) 47 true (all_nil w1) (by simp [allRes]) (by simp [allRes])
    have g5 := g4.gather (ids0 := [bk, 0, 0, 0, 0]) (mem0 := bkMem bk0) [1, 2, 3, 4, 5] (.blk rfl rfl rfl rfl (.res rfl (.res rfl (.res rfl (.res rfl .nil))))) (by decide) 69
    have g6 := g5.absorb 1 6 (by decide) rfl rfl rfl rfl rfl rfl
    exact g6.lessR 1 (ρ' := bkRes bk bk0) rfl rfl rfl (fun h => ⟨h.2.1, fun x hx => List.mem_append.2 (.inr hx)⟩)
  refine n_loop (σ := Nat × Pq × Bk) (fun t => [(3, .raw (.slice o S.length cap)), (4, .int .i64 lo), (5, .int .i64 hi), (14, .nilp), (16, .raw (pV a)), (18, .ptr 1 0), (19, .int .i64 (t.1 : Nat))]) (fun t => olM a bk t.2.1 t.2.2 ++ dead5) (fun t => t.1 ≤ S.length ∧ t.1 ≤ 200 ∧ t.2.1.ok n.toNat t.1 ∧ t.2.2.ok t.1 ∧ (Nb lo hi → t.2.2 = bk0)) (fun t => S.length - t.1) (0, P, bk0) mixed ⟨by dsimp only; omega, by dsimp only; omega, hP, bk0_ok, fun _ => rfl⟩ (fun _ _ => rfl) rfl (by (repeat (first | exact trivial | refine ⟨⟨rfl, rfl⟩, ?_⟩))) (fun s _ => ⟨by (repeat (first | exact trivial | refine ⟨⟨_, rfl⟩, ?_⟩)), by (repeat (first | exact trivial | refine ⟨⟨_, rfl⟩, ?_⟩))⟩) fun t ht => ?_
  obtain ⟨i, P1, B1⟩ := t
  obtain ⟨hi1, hi2, hP1, hB1, hE1⟩ := ht
  dsimp only at hi1 hi2 hP1 hB1 hE1 ⊢
  (refine gs ?_)
  by_cases hil : i < S.length
  · by_cases h4 : i < 200
    · have ei : IntKind.i64.wrap ((i : Int) + 1) = ((i + 1 : Nat) : Int) := by rw [w64 (by omega) (by omega)]; simp
      have h4' : (i : Int) < 200 := by omega
      have hx : S[i]? = some S[i] := List.getElem?_eq_getElem _
      obtain ⟨ad, rfl⟩ := rd_some oq_len (by omega) hR (show 0 < S.length by omega)
      obtain ⟨hg, hgV⟩ := hS _ (List.getElem_mem hil)
      generalize S[i] = x at hx hg hgV
      have hVlt := rd_lt hgV
      have hV1 : ∀ w1, Frm [] w w1 → (readRes x.vo (vws x.V)).R w1 := fun w1 hf => (readRes x.vo (vws x.V)).stable _ _ (fun k hk => hf.block k (hVlt k hk) (by simp)) hgV
      (repeat ((first | refine n_must rfl ?_ | refine n_chk (drawF_ok (by decide +kernel)) ?_ | refine n_same rfl ?_ | ((first | refine n_must ?_ ?_ | refine n_brT ?_ ?_); (focus (first | (simp [hil, h4']; done) | (simp [hil, h4']; omega) | (simp only [hil, h4']; simp; done)))) | (refine n_brF ?_ ?_; (focus (first | (simp [hil, h4']; done) | (simp [hil, h4']; omega) | (simp only [hil, h4']; simp; done)))) | refine n_must (by (with_reducible refine and_shape ?_) <;> kernel_rfl) ?_); (refine gs ?_)))
      (refine n_ldA (.agg x.sv) rfl (by first | exact trivial | rfl) rfl (fun _ w1 _ hI1 => oq_load (hS1 _ hI1.frm) hx rfl) ?_; (refine gs ?_))
      have hap : ∀ {ids' : List Nat} {w1 : World} {mem' : Mem}, Inv (cx 113 [] [] w) w1 ids' mem' → Sel true ids' mem' [0, 1] [0, bk] (olM a bk P1 B1) → ∀ k ∈ (olRes bk a bk P1 B1).fp, k ∉ (readRes x.vo (vws x.V)).fp := fun hI1 hs k hk hk2 => by
        have h1 := (memRes_shut hI1 [0, 1] hs (by decide)).2 k hk
        have h2 := hVlt k hk2
        rcases h1 with h1 | h1
        · cases h1
        · have h1 : w.heap.size ≤ k := h1
          omega
      by_cases hw : x.who = 1
      case pos =>
        by_cases c3 : 3 ≤ x.k
        · by_cases c5 : x.k ≤ 5
          · by_cases cl : x.k < lo
            · as_aux_lemma =>
              (repeat ((first | refine n_must rfl ?_ | refine n_chk (drawF_ok (by decide +kernel)) ?_ | refine n_same rfl ?_ | ((first | refine n_must ?_ ?_ | refine n_brT ?_ ?_); (focus (first | (simp [hw, c3, c5, cl]; done) | (simp [hw, c3, c5, cl]; omega) | (simp only [hw, c3, c5, cl]; simp; done)))) | (refine n_brF ?_ ?_; (focus (first | (simp [hw, c3, c5, cl]; done) | (simp [hw, c3, c5, cl]; omega) | (simp only [hw, c3, c5, cl]; simp; done)))) | refine n_must (by (with_reducible refine and_shape ?_) <;> kernel_rfl) ?_); (refine gs ?_)))
              exact n_again ⟨(i + 1, P1, B1), ⟨by dsimp only; omega, by dsimp only; omega, hP1.mono (Nat.le_succ _), hB1.mono (Nat.le_succ _), hE1⟩, by dsimp only; omega, (by (repeat (first | exact trivial | refine ⟨⟨rfl, rfl⟩, ?_⟩ | refine ⟨⟨rfl, congrArg (SV.int .i64) ei⟩, ?_⟩))), ⟨_, rfl⟩⟩
            · by_cases ch : hi < x.k
              · as_aux_lemma =>
                (repeat ((first | refine n_must rfl ?_ | refine n_chk (drawF_ok (by decide +kernel)) ?_ | refine n_same rfl ?_ | ((first | refine n_must ?_ ?_ | refine n_brT ?_ ?_); (focus (first | (simp [hw, c3, c5, cl, ch]; done) | (simp [hw, c3, c5, cl, ch]; omega) | (simp only [hw, c3, c5, cl, ch]; simp; done)))) | (refine n_brF ?_ ?_; (focus (first | (simp [hw, c3, c5, cl, ch]; done) | (simp [hw, c3, c5, cl, ch]; omega) | (simp only [hw, c3, c5, cl, ch]; simp; done)))) | refine n_must (by (with_reducible refine and_shape ?_) <;> kernel_rfl) ?_); (refine gs ?_)))
                exact n_again ⟨(i + 1, P1, B1), ⟨by dsimp only; omega, by dsimp only; omega, hP1.mono (Nat.le_succ _), hB1.mono (Nat.le_succ _), hE1⟩, by dsimp only; omega, (by (repeat (first | exact trivial | refine ⟨⟨rfl, rfl⟩, ?_⟩ | refine ⟨⟨rfl, congrArg (SV.int .i64) ei⟩, ?_⟩))), ⟨_, rfl⟩⟩
              · as_aux_lemma =>
                (repeat ((first | refine n_must rfl ?_ | refine n_chk (drawF_ok (by decide +kernel)) ?_ | refine n_same rfl ?_ | ((first | refine n_must ?_ ?_ | refine n_brT ?_ ?_); (focus (first | (simp [hw, c3, c5, cl, ch]; done) | (simp [hw, c3, c5, cl, ch]; omega) | (simp only [hw, c3, c5, cl, ch]; simp; done)))) | (refine n_brF ?_ ?_; (focus (first | (simp [hw, c3, c5, cl, ch]; done) | (simp [hw, c3, c5, cl, ch]; omega) | (simp only [hw, c3, c5, cl, ch]; simp; done)))) | refine n_must (by (with_reducible refine and_shape ?_) <;> kernel_rfl) ?_); (refine gs ?_)))
                refine n_callM (Y := Pq × Bk) [0, bk] (olM a bk P1 B1) _ (fun y => olM a bk y.1 y.2) (fun _ => .bool true) (fun _ => .bool true) (fun y => y.1.ok n.toNat (i + 1) ∧ y.2.ok (i + 1) ∧ (y.2 = B1 ∨ x.k = 3 ∨ x.k = 5)) rfl rfl (fun _ => rfl) rfl ⟨_, rfl⟩ (fun _ _ => .res rfl (.res rfl .nil)) (fun j bl hj => match j, hj with | 0, hj => by cases hj; rfl | 1, hj => by cases hj; rfl) (fun _ _ => rfl) (fun _ w1 _ hI1 hR1 => played2_ok hP1 hB1 (by omega) hg hR1 (hV1 _ hI1.frm) (hap hI1 (.res rfl (.res rfl .nil))) (fun h => H.dig (by omega) (by omega) hP1 hB1 (by omega)) (fun h => H.knw (by omega) (by omega) hP1 hB1 (by omega) hg.nm)) ?_
                rintro ⟨P2, B2⟩ ⟨hP2, hB2, hBk⟩
                dsimp only at hP2 hB2 hBk ⊢
                (refine gs ?_)
                refine gw ?_
                exact n_again ⟨(i + 1, P2, B2), ⟨by dsimp only; omega, by dsimp only; omega, hP2, hB2, nb_next hE1 hBk (fun _ _ => by omega)⟩, by dsimp only; omega, (by (repeat (first | exact trivial | refine ⟨⟨rfl, rfl⟩, ?_⟩ | refine ⟨⟨rfl, congrArg (SV.int .i64) ei⟩, ?_⟩))), ⟨_, rfl⟩⟩
          · as_aux_lemma =>
            (repeat ((first | refine n_must rfl ?_ | refine n_chk (drawF_ok (by decide +kernel)) ?_ | refine n_same rfl ?_ | ((first | refine n_must ?_ ?_ | refine n_brT ?_ ?_); (focus (first | (simp [hw, c3, c5]; done) | (simp [hw, c3, c5]; omega) | (simp only [hw, c3, c5]; simp; done)))) | (refine n_brF ?_ ?_; (focus (first | (simp [hw, c3, c5]; done) | (simp [hw, c3, c5]; omega) | (simp only [hw, c3, c5]; simp; done)))) | refine n_must (by (with_reducible refine and_shape ?_) <;> kernel_rfl) ?_); (refine gs ?_)))
            refine n_callM (Y := Pq × Bk) [0, bk] (olM a bk P1 B1) _ (fun y => olM a bk y.1 y.2) (fun _ => .bool true) (fun _ => .bool true) (fun y => y.1.ok n.toNat (i + 1) ∧ y.2.ok (i + 1) ∧ (y.2 = B1 ∨ x.k = 3 ∨ x.k = 5)) rfl rfl (fun _ => rfl) rfl ⟨_, rfl⟩ (fun _ _ => .res rfl (.res rfl .nil)) (fun j bl hj => match j, hj with | 0, hj => by cases hj; rfl | 1, hj => by cases hj; rfl) (fun _ _ => rfl) (fun _ w1 _ hI1 hR1 => played2_ok hP1 hB1 (by omega) hg hR1 (hV1 _ hI1.frm) (hap hI1 (.res rfl (.res rfl .nil))) (fun h => (by exfalso; omega)) (fun h => (by exfalso; omega))) ?_
            rintro ⟨P2, B2⟩ ⟨hP2, hB2, hBk⟩
            dsimp only at hP2 hB2 hBk ⊢
            (refine gs ?_)
            refine gw ?_
            exact n_again ⟨(i + 1, P2, B2), ⟨by dsimp only; omega, by dsimp only; omega, hP2, hB2, nb_next hE1 hBk (fun _ _ => by omega)⟩, by dsimp only; omega, (by (repeat (first | exact trivial | refine ⟨⟨rfl, rfl⟩, ?_⟩ | refine ⟨⟨rfl, congrArg (SV.int .i64) ei⟩, ?_⟩))), ⟨_, rfl⟩⟩
        · as_aux_lemma =>
          (repeat ((first | refine n_must rfl ?_ | refine n_chk (drawF_ok (by decide +kernel)) ?_ | refine n_same rfl ?_ | ((first | refine n_must ?_ ?_ | refine n_brT ?_ ?_); (focus (first | (simp [hw, c3]; done) | (simp [hw, c3]; omega) | (simp only [hw, c3]; simp; done)))) | (refine n_brF ?_ ?_; (focus (first | (simp [hw, c3]; done) | (simp [hw, c3]; omega) | (simp only [hw, c3]; simp; done)))) | refine n_must (by (with_reducible refine and_shape ?_) <;> kernel_rfl) ?_); (refine gs ?_)))
          refine n_callM (Y := Pq × Bk) [0, bk] (olM a bk P1 B1) _ (fun y => olM a bk y.1 y.2) (fun _ => .bool true) (fun _ => .bool true) (fun y => y.1.ok n.toNat (i + 1) ∧ y.2.ok (i + 1) ∧ (y.2 = B1 ∨ x.k = 3 ∨ x.k = 5)) rfl rfl (fun _ => rfl) rfl ⟨_, rfl⟩ (fun _ _ => .res rfl (.res rfl .nil)) (fun j bl hj => match j, hj with | 0, hj => by cases hj; rfl | 1, hj => by cases hj; rfl) (fun _ _ => rfl) (fun _ w1 _ hI1 hR1 => played2_ok hP1 hB1 (by omega) hg hR1 (hV1 _ hI1.frm) (hap hI1 (.res rfl (.res rfl .nil))) (fun h => (by exfalso; omega)) (fun h => (by exfalso; omega))) ?_
          rintro ⟨P2, B2⟩ ⟨hP2, hB2, hBk⟩
          dsimp only at hP2 hB2 hBk ⊢
          (refine gs ?_)
          refine gw ?_
          exact n_again ⟨(i + 1, P2, B2), ⟨by dsimp only; omega, by dsimp only; omega, hP2, hB2, nb_next hE1 hBk (fun _ _ => by omega)⟩, by dsimp only; omega, (by (repeat (first | exact trivial | refine ⟨⟨rfl, rfl⟩, ?_⟩ | refine ⟨⟨rfl, congrArg (SV.int .i64) ei⟩, ?_⟩))), ⟨_, rfl⟩⟩
      case neg =>
        as_aux_lemma =>
        (repeat ((first | refine n_must rfl ?_ | refine n_chk (drawF_ok (by decide +kernel)) ?_ | refine n_same rfl ?_ | ((first | refine n_must ?_ ?_ | refine n_brT ?_ ?_); (focus (first | (simp [hw]; done) | (simp [hw]; omega) | (simp only [hw]; simp; done)))) | (refine n_brF ?_ ?_; (focus (first | (simp [hw]; done) | (simp [hw]; omega) | (simp only [hw]; simp; done)))) | refine n_must (by (with_reducible refine and_shape ?_) <;> kernel_rfl) ?_); (refine gs ?_)))
        exact n_again ⟨(i + 1, P1, B1), ⟨by dsimp only; omega, by dsimp only; omega, hP1.mono (Nat.le_succ _), hB1.mono (Nat.le_succ _), hE1⟩, by dsimp only; omega, (by (repeat (first | exact trivial | refine ⟨⟨rfl, rfl⟩, ?_⟩ | refine ⟨⟨rfl, congrArg (SV.int .i64) ei⟩, ?_⟩))), ⟨_, rfl⟩⟩
    · have h4' : ¬ (i : Int) < 200 := by omega
      (repeat ((first | refine n_must rfl ?_ | refine n_chk (drawF_ok (by decide +kernel)) ?_ | refine n_same rfl ?_ | ((first | refine n_must ?_ ?_ | refine n_brT ?_ ?_); (focus (first | (simp [hil, h4']; done) | (simp [hil, h4']; omega) | (simp only [hil, h4']; simp; done)))) | (refine n_brF ?_ ?_; (focus (first | (simp [hil, h4']; done) | (simp [hil, h4']; omega) | (simp only [hil, h4']; simp; done)))) | refine n_must (by (with_reducible refine and_shape ?_) <;> kernel_rfl) ?_); (refine gs ?_)))
      refine n_exit rfl ?_
      (refine gs ?_)
      refine gw ?_
      refine n_callR (Y := Unit) 1 (fun _ => Res.none) (fun _ => .bool true) (fun _ => .bool true) (fun _ => True) rfl rfl (fun _ => rfl) rfl rfl rfl (fun _ w1 _ hI1 hR1 => (H.apart hB1 (by omega) hE1 hR1).mono fun e w' ⟨he, hf⟩ => ⟨(), he, trivial, hf, trivial, by simp [Res.none], by simp [Res.none]⟩) ?_
      intro _ _
      (refine gs ?_)
      refine gw ?_
      exact n_ret0 rfl rfl fun ids' w' hp hI' => ⟨rfl, hI'.frm⟩
  · (repeat ((first | refine n_must rfl ?_ | refine n_chk (drawF_ok (by decide +kernel)) ?_ | refine n_same rfl ?_ | ((first | refine n_must ?_ ?_ | refine n_brT ?_ ?_); (focus (first | (simp [hil]; done) | (simp [hil]; omega) | (simp only [hil]; simp; done)))) | (refine n_brF ?_ ?_; (focus (first | (simp [hil]; done) | (simp [hil]; omega) | (simp only [hil]; simp; done)))) | refine n_must (by (with_reducible refine and_shape ?_) <;> kernel_rfl) ?_); (refine gs ?_)))
    refine n_exit rfl ?_
    (refine gs ?_)
    refine gw ?_
    refine n_callR (Y := Unit) 1 (fun _ => Res.none) (fun _ => .bool true) (fun _ => .bool true) (fun _ => True) rfl rfl (fun _ => rfl) rfl rfl rfl (fun _ w1 _ hI1 hR1 => (H.apart hB1 (by omega) hE1 hR1).mono fun e w' ⟨he, hf⟩ => ⟨(), he, trivial, hf, trivial, by simp [Res.none], by simp [Res.none]⟩) ?_
    intro _ _
    (refine gs ?_)
    refine gw ?_
    exact n_ret0 rfl rfl fun ids' w' hp hI' => ⟨rfl, hI'.frm⟩
theorem runs_ok {me peer n lo hi : Int} {o : Option Addr} {S : List Oq} {cap : Nat} {w : World} (H : RunH lo hi) (hR : (oqRes o S).R w) (hS : ∀ x ∈ S, x.good ∧ (readRes x.vo (vws x.V)).R w) (hl : S.length ≤ 9223372036854775806) :
    Calls Try.prog 10 #[.int .i64 me, .int .i64 peer, .int .i64 n, .slice o S.length cap, .int .i64 lo, .int .i64 hi] w fun e w' => e = .returned (.bool true) ∧ Frm [] w w' := by
  by_cases h1 : newErr me n = 0
  · by_cases h2 : newErr peer n = 0
    · exact run_both H h1 h2 hR hS hl
    · exact run_a H h1 h2 hR hS hl
  · by_cases h2 : newErr peer n = 0
    · exact run_b H h1 h2 hR hS hl
    · exact run_none H h1 h2 hR hS hl
end Go.Proofs.Ytcpecnpnnodfhaa
