/- Chapter 9's law: run. -/
import Derived.Test.YtcpecnpnnodfhaaBnVg
set_option maxRecDepth 100000
set_option linter.unusedSimpArgs false
set_option linter.unusedVariables false
set_option maxHeartbeats 8000000
namespace Go.Proofs.Ytcpecnpnnodfhaa
open Go.RowKit

theorem aggOq : aggB Try.prog 74 = some true := by kernel_rfl
theorem sizeOq : sizeB Try.prog 74 = some 9 := by kernel_rfl
theorem sizePb : sizeB Try.prog 65 = some 1 := by kernel_rfl
abbrev oqRes (o : Option Addr) (S : List Oq) : Res := readRes o (S.flatMap Oq.l)
theorem oq_load {a : Addr} {S : List Oq} {w : World} (h : (oqRes (some a) S).R w) {i : Nat} {x : Oq} (hx : S[i]? = some x) {ad : Addr} (had : ad = a.add (i * 9)) : (loadVar 74 ad).run Try.prog w = .ok x.val w :=
  load_row (l := x.l) aggOq sizeOq fun j u hu => rd_at oq_len h hx (j := j) (by have := (List.getElem?_eq_some_iff.1 hu).1; simpa using this) hu (by rw [had, add_add])
theorem pq_bk {b bk bk2 : Nat} {P : Pq} {w w' : World} (h : (pqRes b bk P).R w) (hf : Frm [b] w w') (hb : Blk w' b [pV P.v, pV P.q, .slice P.dg.1 P.dg.2.1 P.dg.2.2, .slice P.kn.1 P.kn.2.1 P.kn.2.2, pV bk2].toArray 72) : (pqRes b bk2 P).R w' :=
  (post_blk Try.prog h (i := 0) (cs := P.sv bk2) rfl rfl rfl rfl hf hb).2.1
/-- Nothing is written into the book. -/
abbrev Nb (lo hi : Int) : Prop := ¬ (lo ≤ 3 ∧ 3 ≤ hi) ∧ ¬ (lo ≤ 5 ∧ 5 ≤ hi)
abbrev bk0 : Bk := ⟨none, 0, [], none, 0, []⟩
theorem nb_next {lo hi k : Int} {B1 B2 : Bk} (hE : Nb lo hi → B1 = bk0) (hBk : B2 = B1 ∨ k = 3 ∨ k = 5) (hk : 3 ≤ k → k ≤ 5 → lo ≤ k ∧ k ≤ hi) (hn : Nb lo hi) : B2 = bk0 := by
  obtain ⟨h1, h2⟩ := hn
  rcases hBk with h | h | h
  · rw [h]; exact hE ⟨h1, h2⟩
  · exact absurd (h ▸ hk (by omega) (by omega)) h1
  · exact absurd (h ▸ hk (by omega) (by omega)) h2
structure RunH (lo hi : Int) : Prop where
  dig : lo ≤ 3 → 3 ≤ hi → ∀ {b bk n N : Nat} {P : Pq} {B : Bk}, P.ok n N → B.ok N → N ≤ 300 → DigC b bk n N P B
  knw : lo ≤ 5 → 5 ≤ hi → ∀ {b bk n N : Nat} {P : Pq} {B : Bk} {nm : ByteArray}, P.ok n N → B.ok N → N ≤ 300 → nm.size ≤ maxLen → KnwC b bk n N P B nm
  apart : ∀ {bk N : Nat} {B : Bk} {w : World}, B.ok N → N ≤ 300 → (Nb lo hi → B = bk0) → (bkRes bk B).R w → Calls Try.prog 24 #[pV bk] w fun e w' => e = .returned (.bool true) ∧ Frm (bkRes bk B).fp w w'
abbrev dead5 : Mem := [⟨100, [.res Res.none], true⟩, ⟨103, [.res Res.none], true⟩, ⟨49, [.res Res.none], true⟩, ⟨47, [.res Res.none], true⟩, ⟨69, [.res Res.none], true⟩]
theorem run_both {me peer n lo hi : Int} {o : Option Addr} {S : List Oq} {cap : Nat} {w : World} (H : RunH lo hi) (h1 : newErr me n = 0) (h2 : newErr peer n = 0) (hR : (oqRes o S).R w) (hS : ∀ x ∈ S, x.good ∧ (readRes x.vo (vws x.V)).R w) (hl : S.length ≤ 9223372036854775806) :
    Calls Try.prog 10 #[.int .i64 me, .int .i64 peer, .int .i64 n, .slice o S.length cap, .int .i64 lo, .int .i64 hi] w fun e w' => e = .returned (.bool true) ∧ Frm [] w w' := by
  have hI := Inv.nil (P := Try.prog) (N := 113) (S := []) (os := []) w
  have hS1 : ∀ w1, Frm [] w w1 → (oqRes o S).R w1 := fun w1 hf => (oqRes o S).stable _ _ (fun k hk => hf.block k (rd_lt hR k hk) (by simp)) hR
  obtain ⟨q1, q2, q3, q4⟩ := newErr_0 h1
  obtain ⟨q5, q6, q7, q8⟩ := newErr_0 h2
  refine calls_sm (cx 113 [] [] w) (vals := [.int .i64 me, .int .i64 peer, .int .i64 n, .raw (.slice o S.length cap), .int .i64 lo, .int .i64 hi]) mixed Try.func10 rfl rfl rfl hI rfl (st rfl ?_); conv => arg 3; whnf
  refine gw ?_
  refine n_sameP (.bool true) rfl rfl rfl (fun _ w1 hp1 hI1 => alive_ok w1) ?_; (refine gs ?_)
  refine gw ?_
  refine n_callN (fun y : Nat × Nat × Nat × Nat × Nat × Nat => pqRes y.1 y.2.1 (Pq.new y.2.2.1 y.2.2.2.1 y.2.2.2.2.1 y.2.2.2.2.2 me n.toNat)) 72 (fun y => .tup [.raw (pV y.1), .bool true]) (fun y => .tuple #[pV y.1, .bool true]) (fun _ => True) rfl rfl rfl (fun _ => rfl) (fun w1 hI1 => made_good h1 w1) ?_
  rintro ⟨a, ka, va, ma, na, qa⟩ _ _
  dsimp only
  have hP := pq_new_ok (v := va) (mb := ma) (nb := na) (q := qa) (me := me) (n := n.toNat) (by omega) (by omega)
  generalize Pq.new va ma na qa me n.toNat = P at hP
  (refine gs ?_)
  refine gw ?_
  refine n_callN (fun y : Nat × Nat × Nat × Nat × Nat × Nat => pqRes y.1 y.2.1 (Pq.new y.2.2.1 y.2.2.2.1 y.2.2.2.2.1 y.2.2.2.2.2 peer n.toNat)) 72 (fun y => .tup [.raw (pV y.1), .bool true]) (fun y => .tuple #[pV y.1, .bool true]) (fun _ => True) rfl rfl rfl (fun _ => rfl) (fun w1 hI1 => made_good h2 w1) ?_
  rintro ⟨b, kb, vb, mb, nb, qb⟩ _ _
  dsimp only
  have hQ := pq_new_ok (v := vb) (mb := mb) (nb := nb) (q := qb) (me := peer) (n := n.toNat) (by omega) (by omega)
  generalize Pq.new vb mb nb qb peer n.toNat = Q at hQ
  (refine gs ?_)
  refine gw ?_
  refine n_op1 rfl fun bk => ?_
  refine n_storeA (n := a) (off := 4) (k := 1) (ty := 72) (l := [pV (P).v, pV (P).q, .slice (P).dg.1 (P).dg.2.1 (P).dg.2.2, .slice (P).kn.1 (P).kn.2.1 (P).kn.2.2, pV ka]) (v := pV bk) 0 (ρ := pqRes a ka P) (pqRes a bk P) [pV (P).v, pV (P).q, .slice (P).dg.1 (P).dg.2.1 (P).dg.2.2, .slice (P).kn.1 (P).kn.2.1 (P).kn.2.2, pV bk] rfl rfl rfl (by rw [add_mk]; rfl) rfl rfl sizePb rfl rfl rfl rfl rfl (by simp [memRes, fpsOf, fpOf, resOf]) (fun w h => memRes_blk h 0 rfl rfl rfl) (by simp) rfl (fun w w' h hf hb => pq_bk h hf hb) (fun x h => h) ?_
  (refine gs ?_)
  refine gw ?_
  refine n_storeA (n := b) (off := 4) (k := 1) (ty := 72) (l := [pV (Q).v, pV (Q).q, .slice (Q).dg.1 (Q).dg.2.1 (Q).dg.2.2, .slice (Q).kn.1 (Q).kn.2.1 (Q).kn.2.2, pV kb]) (v := pV bk) 1 (ρ := pqRes b kb Q) (pqRes b bk Q) [pV (Q).v, pV (Q).q, .slice (Q).dg.1 (Q).dg.2.1 (Q).dg.2.2, .slice (Q).kn.1 (Q).kn.2.1 (Q).kn.2.2, pV bk] rfl rfl rfl (by rw [add_mk]; rfl) rfl rfl sizePb rfl rfl rfl rfl rfl (by simp [memRes, fpsOf, fpOf, resOf]) (fun w h => memRes_blk h 0 rfl rfl rfl) (by simp) rfl (fun w w' h hf hb => pq_bk h hf hb) (fun x h => h) ?_
  (refine gs ?_)
  refine gw ?_
  refine n_loopX [0, 0, 0, 0, 0] (plM a b bk P Q bk0 ++ dead5) rfl (fun w1 hI1 => ?_) ?_
  · have g1 := hI1.addR (Frm.refl [] w1) (rowRes 100 3 none 0 0 []) 100 true (rowRes_nil _ _ _) (by simp [rowRes]) (by simp [rowRes])
    have g2 := g1.addR (Frm.refl [] w1) (rowRes 103 3 none 0 0 []) 103 true (rowRes_nil _ _ _) (by simp [rowRes]) (by simp [rowRes])
    have g3 := g2.addR (Frm.refl [] w1) (allRes []) 49 true (all_nil w1) (by simp [allRes]) (by simp [allRes])
    have g4 := g3.addR (Frm.refl [] w1) (allRes []) 47 true (all_nil w1) (by simp [allRes]) (by simp [allRes])
    have g5 := g4.gather (ids0 := [bk, 0, 0, 0, 0]) (mem0 := bkMem bk0) [2, 3, 4, 5, 6] (.blk rfl rfl rfl rfl (.res rfl (.res rfl (.res rfl (.res rfl .nil))))) (by decide) 69
    have g6 := g5.absorb 2 7 (by decide) rfl rfl rfl rfl rfl rfl
    exact g6.lessR 2 (ρ' := bkRes bk bk0) rfl rfl rfl (fun h => ⟨h.2.1, fun x hx => List.mem_append.2 (.inr hx)⟩)
  refine n_loop (σ := Nat × Pq × Pq × Bk) (fun t => [(3, .raw (.slice o S.length cap)), (4, .int .i64 lo), (5, .int .i64 hi), (14, .raw (pV a)), (16, .raw (pV b)), (18, .ptr 2 0), (19, .int .i64 (t.1 : Nat))]) (fun t => plM a b bk t.2.1 t.2.2.1 t.2.2.2 ++ dead5) (fun t => t.1 ≤ S.length ∧ t.1 ≤ 200 ∧ t.2.1.ok n.toNat t.1 ∧ t.2.2.1.ok n.toNat t.1 ∧ t.2.2.2.ok t.1 ∧ (Nb lo hi → t.2.2.2 = bk0)) (fun t => S.length - t.1) (0, P, Q, bk0) mixed ⟨by dsimp only; omega, by dsimp only; omega, hP, hQ, bk0_ok, fun _ => rfl⟩ (fun _ _ => rfl) rfl (by (repeat (first | exact trivial | refine ⟨⟨rfl, rfl⟩, ?_⟩))) (fun s _ => ⟨by (repeat (first | exact trivial | refine ⟨⟨_, rfl⟩, ?_⟩)), by (repeat (first | exact trivial | refine ⟨⟨_, rfl⟩, ?_⟩))⟩) fun t ht => ?_
  obtain ⟨i, P1, Q1, B1⟩ := t
  obtain ⟨hi1, hi2, hP1, hQ1, hB1, hE1⟩ := ht
  dsimp only at hi1 hi2 hP1 hQ1 hB1 hE1 ⊢
  (refine gs ?_)
  by_cases hil : i < S.length
  · by_cases h4 : i < 200
    · have ei : IntKind.i64.wrap ((i : Int) + 1) = ((i + 1 : Nat) : Int) := by rw [w64 (by omega) (by omega)]; simp
      have h4' : (i : Int) < 200 := by omega
      have hx : S[i]? = some S[i] := List.getElem?_eq_getElem _
      obtain ⟨ad, rfl⟩ := rd_some oq_len (by omega) hR (show 0 < S.length by omega)
      obtain ⟨hg, hgV⟩ := hS _ (List.getElem_mem hil)
      generalize S[i] = x at hx hg hgV
      have hVlt := rd_lt hgV
      have hV1 : ∀ w1, Frm [] w w1 → (readRes x.vo (vws x.V)).R w1 := fun w1 hf => (readRes x.vo (vws x.V)).stable _ _ (fun k hk => hf.block k (hVlt k hk) (by simp)) hgV
      (repeat ((first | refine n_must rfl ?_ | refine n_chk (drawF_ok (by decide +kernel)) ?_ | refine n_same rfl ?_ | ((first | refine n_must ?_ ?_ | refine n_brT ?_ ?_); (focus (first | (simp [hil, h4']; done) | (simp [hil, h4']; omega) | (simp only [hil, h4']; simp; done)))) | (refine n_brF ?_ ?_; (focus (first | (simp [hil, h4']; done) | (simp [hil, h4']; omega) | (simp only [hil, h4']; simp; done)))) | refine n_must (by (with_reducible refine and_shape ?_) <;> kernel_rfl) ?_); (refine gs ?_)))
      (refine n_ldA (.agg x.sv) rfl (by first | exact trivial | rfl) rfl (fun _ w1 _ hI1 => oq_load (hS1 _ hI1.frm) hx rfl) ?_; (refine gs ?_))
      have hap : ∀ {ids' : List Nat} {w1 : World} {mem' : Mem}, Inv (cx 113 [] [] w) w1 ids' mem' → Sel true ids' mem' [0, 1, 2] [0, 0, bk] (plM a b bk P1 Q1 B1) → ∀ k ∈ (plRes bk a b bk P1 Q1 B1).fp, k ∉ (readRes x.vo (vws x.V)).fp := fun hI1 hs k hk hk2 => by
        have h1 := (memRes_shut hI1 [0, 1, 2] hs (by decide)).2 k hk
        have h2 := hVlt k hk2
        rcases h1 with h1 | h1
        · cases h1
        · have h1 : w.heap.size ≤ k := h1
          omega
      by_cases c3 : 3 ≤ x.k
      · by_cases c5 : x.k ≤ 5
        · by_cases cl : x.k < lo
          · by_cases hw : x.who = 1
            · as_aux_lemma =>
              (repeat ((first | refine n_must rfl ?_ | refine n_chk (drawF_ok (by decide +kernel)) ?_ | refine n_same rfl ?_ | ((first | refine n_must ?_ ?_ | refine n_brT ?_ ?_); (focus (first | (simp [c3, c5, cl, hw]; done) | (simp [c3, c5, cl, hw]; omega) | (simp only [c3, c5, cl, hw]; simp; done)))) | (refine n_brF ?_ ?_; (focus (first | (simp [c3, c5, cl, hw]; done) | (simp [c3, c5, cl, hw]; omega) | (simp only [c3, c5, cl, hw]; simp; done)))) | refine n_must (by (with_reducible refine and_shape ?_) <;> kernel_rfl) ?_); (refine gs ?_)))
              exact n_again ⟨(i + 1, P1, Q1, B1), ⟨by dsimp only; omega, by dsimp only; omega, hP1.mono (Nat.le_succ _), hQ1.mono (Nat.le_succ _), hB1.mono (Nat.le_succ _), hE1⟩, by dsimp only; omega, (by (repeat (first | exact trivial | refine ⟨⟨rfl, rfl⟩, ?_⟩ | refine ⟨⟨rfl, congrArg (SV.int .i64) ei⟩, ?_⟩))), ⟨_, rfl⟩⟩
            · as_aux_lemma =>
              (repeat ((first | refine n_must rfl ?_ | refine n_chk (drawF_ok (by decide +kernel)) ?_ | refine n_same rfl ?_ | ((first | refine n_must ?_ ?_ | refine n_brT ?_ ?_); (focus (first | (simp [c3, c5, cl, hw]; done) | (simp [c3, c5, cl, hw]; omega) | (simp only [c3, c5, cl, hw]; simp; done)))) | (refine n_brF ?_ ?_; (focus (first | (simp [c3, c5, cl, hw]; done) | (simp [c3, c5, cl, hw]; omega) | (simp only [c3, c5, cl, hw]; simp; done)))) | refine n_must (by (with_reducible refine and_shape ?_) <;> kernel_rfl) ?_); (refine gs ?_)))
              exact n_again ⟨(i + 1, P1, Q1, B1), ⟨by dsimp only; omega, by dsimp only; omega, hP1.mono (Nat.le_succ _), hQ1.mono (Nat.le_succ _), hB1.mono (Nat.le_succ _), hE1⟩, by dsimp only; omega, (by (repeat (first | exact trivial | refine ⟨⟨rfl, rfl⟩, ?_⟩ | refine ⟨⟨rfl, congrArg (SV.int .i64) ei⟩, ?_⟩))), ⟨_, rfl⟩⟩
          · by_cases ch : hi < x.k
            · by_cases hw : x.who = 1
              · as_aux_lemma =>
                (repeat ((first | refine n_must rfl ?_ | refine n_chk (drawF_ok (by decide +kernel)) ?_ | refine n_same rfl ?_ | ((first | refine n_must ?_ ?_ | refine n_brT ?_ ?_); (focus (first | (simp [c3, c5, cl, ch, hw]; done) | (simp [c3, c5, cl, ch, hw]; omega) | (simp only [c3, c5, cl, ch, hw]; simp; done)))) | (refine n_brF ?_ ?_; (focus (first | (simp [c3, c5, cl, ch, hw]; done) | (simp [c3, c5, cl, ch, hw]; omega) | (simp only [c3, c5, cl, ch, hw]; simp; done)))) | refine n_must (by (with_reducible refine and_shape ?_) <;> kernel_rfl) ?_); (refine gs ?_)))
                exact n_again ⟨(i + 1, P1, Q1, B1), ⟨by dsimp only; omega, by dsimp only; omega, hP1.mono (Nat.le_succ _), hQ1.mono (Nat.le_succ _), hB1.mono (Nat.le_succ _), hE1⟩, by dsimp only; omega, (by (repeat (first | exact trivial | refine ⟨⟨rfl, rfl⟩, ?_⟩ | refine ⟨⟨rfl, congrArg (SV.int .i64) ei⟩, ?_⟩))), ⟨_, rfl⟩⟩
              · as_aux_lemma =>
                (repeat ((first | refine n_must rfl ?_ | refine n_chk (drawF_ok (by decide +kernel)) ?_ | refine n_same rfl ?_ | ((first | refine n_must ?_ ?_ | refine n_brT ?_ ?_); (focus (first | (simp [c3, c5, cl, ch, hw]; done) | (simp [c3, c5, cl, ch, hw]; omega) | (simp only [c3, c5, cl, ch, hw]; simp; done)))) | (refine n_brF ?_ ?_; (focus (first | (simp [c3, c5, cl, ch, hw]; done) | (simp [c3, c5, cl, ch, hw]; omega) | (simp only [c3, c5, cl, ch, hw]; simp; done)))) | refine n_must (by (with_reducible refine and_shape ?_) <;> kernel_rfl) ?_); (refine gs ?_)))
                exact n_again ⟨(i + 1, P1, Q1, B1), ⟨by dsimp only; omega, by dsimp only; omega, hP1.mono (Nat.le_succ _), hQ1.mono (Nat.le_succ _), hB1.mono (Nat.le_succ _), hE1⟩, by dsimp only; omega, (by (repeat (first | exact trivial | refine ⟨⟨rfl, rfl⟩, ?_⟩ | refine ⟨⟨rfl, congrArg (SV.int .i64) ei⟩, ?_⟩))), ⟨_, rfl⟩⟩
            · by_cases hw : x.who = 1
              · as_aux_lemma =>
                (repeat ((first | refine n_must rfl ?_ | refine n_chk (drawF_ok (by decide +kernel)) ?_ | refine n_same rfl ?_ | ((first | refine n_must ?_ ?_ | refine n_brT ?_ ?_); (focus (first | (simp [c3, c5, cl, ch, hw]; done) | (simp [c3, c5, cl, ch, hw]; omega) | (simp only [c3, c5, cl, ch, hw]; simp; done)))) | (refine n_brF ?_ ?_; (focus (first | (simp [c3, c5, cl, ch, hw]; done) | (simp [c3, c5, cl, ch, hw]; omega) | (simp only [c3, c5, cl, ch, hw]; simp; done)))) | refine n_must (by (with_reducible refine and_shape ?_) <;> kernel_rfl) ?_); (refine gs ?_)))
                refine n_callM (Y := Pq × Bk) [0, 0, bk] (plM a b bk P1 Q1 B1) _ (fun y => plM a b bk P1 y.1 y.2) (fun _ => .bool true) (fun _ => .bool true) (fun y => y.1.ok n.toNat (i + 1) ∧ y.2.ok (i + 1) ∧ (y.2 = B1 ∨ x.k = 3 ∨ x.k = 5)) rfl rfl (fun _ => rfl) rfl ⟨_, rfl⟩ (fun _ _ => .res rfl (.res rfl (.res rfl .nil))) (fun j bl hj => match j, hj with | 0, hj => by cases hj; rfl | 1, hj => by cases hj; rfl | 2, hj => by cases hj; rfl) (fun _ _ => rfl) (fun _ w1 _ hI1 hR1 => played1_ok hP1 hQ1 hB1 (by omega) hg hR1 (hV1 _ hI1.frm) (hap hI1 (.res rfl (.res rfl (.res rfl .nil)))) (fun h => H.dig (by omega) (by omega) hQ1 hB1 (by omega)) (fun h => H.knw (by omega) (by omega) hQ1 hB1 (by omega) hg.nm)) ?_
                rintro ⟨P2, B2⟩ ⟨hP2, hB2, hBk⟩
                dsimp only at hP2 hB2 hBk ⊢
                (refine gs ?_)
                refine gw ?_
                exact n_again ⟨(i + 1, P1, P2, B2), ⟨by dsimp only; omega, by dsimp only; omega, hP1.mono (Nat.le_succ _), hP2, hB2, nb_next hE1 hBk (fun _ _ => by omega)⟩, by dsimp only; omega, (by (repeat (first | exact trivial | refine ⟨⟨rfl, rfl⟩, ?_⟩ | refine ⟨⟨rfl, congrArg (SV.int .i64) ei⟩, ?_⟩))), ⟨_, rfl⟩⟩
              · as_aux_lemma =>
                (repeat ((first | refine n_must rfl ?_ | refine n_chk (drawF_ok (by decide +kernel)) ?_ | refine n_same rfl ?_ | ((first | refine n_must ?_ ?_ | refine n_brT ?_ ?_); (focus (first | (simp [c3, c5, cl, ch, hw]; done) | (simp [c3, c5, cl, ch, hw]; omega) | (simp only [c3, c5, cl, ch, hw]; simp; done)))) | (refine n_brF ?_ ?_; (focus (first | (simp [c3, c5, cl, ch, hw]; done) | (simp [c3, c5, cl, ch, hw]; omega) | (simp only [c3, c5, cl, ch, hw]; simp; done)))) | refine n_must (by (with_reducible refine and_shape ?_) <;> kernel_rfl) ?_); (refine gs ?_)))
                refine n_callM (Y := Pq × Bk) [0, 0, bk] (plM a b bk P1 Q1 B1) _ (fun y => plM a b bk y.1 Q1 y.2) (fun _ => .bool true) (fun _ => .bool true) (fun y => y.1.ok n.toNat (i + 1) ∧ y.2.ok (i + 1) ∧ (y.2 = B1 ∨ x.k = 3 ∨ x.k = 5)) rfl rfl (fun _ => rfl) rfl ⟨_, rfl⟩ (fun _ _ => .res rfl (.res rfl (.res rfl .nil))) (fun j bl hj => match j, hj with | 0, hj => by cases hj; rfl | 1, hj => by cases hj; rfl | 2, hj => by cases hj; rfl) (fun _ _ => rfl) (fun _ w1 _ hI1 hR1 => played0_ok hP1 hQ1 hB1 (by omega) hg hR1 (hV1 _ hI1.frm) (hap hI1 (.res rfl (.res rfl (.res rfl .nil)))) (fun h => H.dig (by omega) (by omega) hP1 hB1 (by omega)) (fun h => H.knw (by omega) (by omega) hP1 hB1 (by omega) hg.nm)) ?_
                rintro ⟨P2, B2⟩ ⟨hP2, hB2, hBk⟩
                dsimp only at hP2 hB2 hBk ⊢
                (refine gs ?_)
                refine gw ?_
                exact n_again ⟨(i + 1, P2, Q1, B2), ⟨by dsimp only; omega, by dsimp only; omega, hP2, hQ1.mono (Nat.le_succ _), hB2, nb_next hE1 hBk (fun _ _ => by omega)⟩, by dsimp only; omega, (by (repeat (first | exact trivial | refine ⟨⟨rfl, rfl⟩, ?_⟩ | refine ⟨⟨rfl, congrArg (SV.int .i64) ei⟩, ?_⟩))), ⟨_, rfl⟩⟩
        · by_cases hw : x.who = 1
          · as_aux_lemma =>
            (repeat ((first | refine n_must rfl ?_ | refine n_chk (drawF_ok (by decide +kernel)) ?_ | refine n_same rfl ?_ | ((first | refine n_must ?_ ?_ | refine n_brT ?_ ?_); (focus (first | (simp [c3, c5, hw]; done) | (simp [c3, c5, hw]; omega) | (simp only [c3, c5, hw]; simp; done)))) | (refine n_brF ?_ ?_; (focus (first | (simp [c3, c5, hw]; done) | (simp [c3, c5, hw]; omega) | (simp only [c3, c5, hw]; simp; done)))) | refine n_must (by (with_reducible refine and_shape ?_) <;> kernel_rfl) ?_); (refine gs ?_)))
            refine n_callM (Y := Pq × Bk) [0, 0, bk] (plM a b bk P1 Q1 B1) _ (fun y => plM a b bk P1 y.1 y.2) (fun _ => .bool true) (fun _ => .bool true) (fun y => y.1.ok n.toNat (i + 1) ∧ y.2.ok (i + 1) ∧ (y.2 = B1 ∨ x.k = 3 ∨ x.k = 5)) rfl rfl (fun _ => rfl) rfl ⟨_, rfl⟩ (fun _ _ => .res rfl (.res rfl (.res rfl .nil))) (fun j bl hj => match j, hj with | 0, hj => by cases hj; rfl | 1, hj => by cases hj; rfl | 2, hj => by cases hj; rfl) (fun _ _ => rfl) (fun _ w1 _ hI1 hR1 => played1_ok hP1 hQ1 hB1 (by omega) hg hR1 (hV1 _ hI1.frm) (hap hI1 (.res rfl (.res rfl (.res rfl .nil)))) (fun h => (by exfalso; omega)) (fun h => (by exfalso; omega))) ?_
            rintro ⟨P2, B2⟩ ⟨hP2, hB2, hBk⟩
            dsimp only at hP2 hB2 hBk ⊢
            (refine gs ?_)
            refine gw ?_
            exact n_again ⟨(i + 1, P1, P2, B2), ⟨by dsimp only; omega, by dsimp only; omega, hP1.mono (Nat.le_succ _), hP2, hB2, nb_next hE1 hBk (fun _ _ => by omega)⟩, by dsimp only; omega, (by (repeat (first | exact trivial | refine ⟨⟨rfl, rfl⟩, ?_⟩ | refine ⟨⟨rfl, congrArg (SV.int .i64) ei⟩, ?_⟩))), ⟨_, rfl⟩⟩
          · as_aux_lemma =>
            (repeat ((first | refine n_must rfl ?_ | refine n_chk (drawF_ok (by decide +kernel)) ?_ | refine n_same rfl ?_ | ((first | refine n_must ?_ ?_ | refine n_brT ?_ ?_); (focus (first | (simp [c3, c5, hw]; done) | (simp [c3, c5, hw]; omega) | (simp only [c3, c5, hw]; simp; done)))) | (refine n_brF ?_ ?_; (focus (first | (simp [c3, c5, hw]; done) | (simp [c3, c5, hw]; omega) | (simp only [c3, c5, hw]; simp; done)))) | refine n_must (by (with_reducible refine and_shape ?_) <;> kernel_rfl) ?_); (refine gs ?_)))
            refine n_callM (Y := Pq × Bk) [0, 0, bk] (plM a b bk P1 Q1 B1) _ (fun y => plM a b bk y.1 Q1 y.2) (fun _ => .bool true) (fun _ => .bool true) (fun y => y.1.ok n.toNat (i + 1) ∧ y.2.ok (i + 1) ∧ (y.2 = B1 ∨ x.k = 3 ∨ x.k = 5)) rfl rfl (fun _ => rfl) rfl ⟨_, rfl⟩ (fun _ _ => .res rfl (.res rfl (.res rfl .nil))) (fun j bl hj => match j, hj with | 0, hj => by cases hj; rfl | 1, hj => by cases hj; rfl | 2, hj => by cases hj; rfl) (fun _ _ => rfl) (fun _ w1 _ hI1 hR1 => played0_ok hP1 hQ1 hB1 (by omega) hg hR1 (hV1 _ hI1.frm) (hap hI1 (.res rfl (.res rfl (.res rfl .nil)))) (fun h => (by exfalso; omega)) (fun h => (by exfalso; omega))) ?_
            rintro ⟨P2, B2⟩ ⟨hP2, hB2, hBk⟩
            dsimp only at hP2 hB2 hBk ⊢
            (refine gs ?_)
            refine gw ?_
            exact n_again ⟨(i + 1, P2, Q1, B2), ⟨by dsimp only; omega, by dsimp only; omega, hP2, hQ1.mono (Nat.le_succ _), hB2, nb_next hE1 hBk (fun _ _ => by omega)⟩, by dsimp only; omega, (by (repeat (first | exact trivial | refine ⟨⟨rfl, rfl⟩, ?_⟩ | refine ⟨⟨rfl, congrArg (SV.int .i64) ei⟩, ?_⟩))), ⟨_, rfl⟩⟩
      · by_cases hw : x.who = 1
        · as_aux_lemma =>
          (repeat ((first | refine n_must rfl ?_ | refine n_chk (drawF_ok (by decide +kernel)) ?_ | refine n_same rfl ?_ | ((first | refine n_must ?_ ?_ | refine n_brT ?_ ?_); (focus (first | (simp [c3, hw]; done) | (simp [c3, hw]; omega) | (simp only [c3, hw]; simp; done)))) | (refine n_brF ?_ ?_; (focus (first | (simp [c3, hw]; done) | (simp [c3, hw]; omega) | (simp only [c3, hw]; simp; done)))) | refine n_must (by (with_reducible refine and_shape ?_) <;> kernel_rfl) ?_); (refine gs ?_)))
          refine n_callM (Y := Pq × Bk) [0, 0, bk] (plM a b bk P1 Q1 B1) _ (fun y => plM a b bk P1 y.1 y.2) (fun _ => .bool true) (fun _ => .bool true) (fun y => y.1.ok n.toNat (i + 1) ∧ y.2.ok (i + 1) ∧ (y.2 = B1 ∨ x.k = 3 ∨ x.k = 5)) rfl rfl (fun _ => rfl) rfl ⟨_, rfl⟩ (fun _ _ => .res rfl (.res rfl (.res rfl .nil))) (fun j bl hj => match j, hj with | 0, hj => by cases hj; rfl | 1, hj => by cases hj; rfl | 2, hj => by cases hj; rfl) (fun _ _ => rfl) (fun _ w1 _ hI1 hR1 => played1_ok hP1 hQ1 hB1 (by omega) hg hR1 (hV1 _ hI1.frm) (hap hI1 (.res rfl (.res rfl (.res rfl .nil)))) (fun h => (by exfalso; omega)) (fun h => (by exfalso; omega))) ?_
          rintro ⟨P2, B2⟩ ⟨hP2, hB2, hBk⟩
          dsimp only at hP2 hB2 hBk ⊢
          (refine gs ?_)
          refine gw ?_
          exact n_again ⟨(i + 1, P1, P2, B2), ⟨by dsimp only; omega, by dsimp only; omega, hP1.mono (Nat.le_succ _), hP2, hB2, nb_next hE1 hBk (fun _ _ => by omega)⟩, by dsimp only; omega, (by (repeat (first | exact trivial | refine ⟨⟨rfl, rfl⟩, ?_⟩ | refine ⟨⟨rfl, congrArg (SV.int .i64) ei⟩, ?_⟩))), ⟨_, rfl⟩⟩
        · as_aux_lemma =>
          (repeat ((first | refine n_must rfl ?_ | refine n_chk (drawF_ok (by decide +kernel)) ?_ | refine n_same rfl ?_ | ((first | refine n_must ?_ ?_ | refine n_brT ?_ ?_); (focus (first | (simp [c3, hw]; done) | (simp [c3, hw]; omega) | (simp only [c3, hw]; simp; done)))) | (refine n_brF ?_ ?_; (focus (first | (simp [c3, hw]; done) | (simp [c3, hw]; omega) | (simp only [c3, hw]; simp; done)))) | refine n_must (by (with_reducible refine and_shape ?_) <;> kernel_rfl) ?_); (refine gs ?_)))
          refine n_callM (Y := Pq × Bk) [0, 0, bk] (plM a b bk P1 Q1 B1) _ (fun y => plM a b bk y.1 Q1 y.2) (fun _ => .bool true) (fun _ => .bool true) (fun y => y.1.ok n.toNat (i + 1) ∧ y.2.ok (i + 1) ∧ (y.2 = B1 ∨ x.k = 3 ∨ x.k = 5)) rfl rfl (fun _ => rfl) rfl ⟨_, rfl⟩ (fun _ _ => .res rfl (.res rfl (.res rfl .nil))) (fun j bl hj => match j, hj with | 0, hj => by cases hj; rfl | 1, hj => by cases hj; rfl | 2, hj => by cases hj; rfl) (fun _ _ => rfl) (fun _ w1 _ hI1 hR1 => played0_ok hP1 hQ1 hB1 (by omega) hg hR1 (hV1 _ hI1.frm) (hap hI1 (.res rfl (.res rfl (.res rfl .nil)))) (fun h => (by exfalso; omega)) (fun h => (by exfalso; omega))) ?_
          rintro ⟨P2, B2⟩ ⟨hP2, hB2, hBk⟩
          dsimp only at hP2 hB2 hBk ⊢
          (refine gs ?_)
          refine gw ?_
          exact n_again ⟨(i + 1, P2, Q1, B2), ⟨by dsimp only; omega, by dsimp only; omega, hP2, hQ1.mono (Nat.le_succ _), hB2, nb_next hE1 hBk (fun _ _ => by omega)⟩, by dsimp only; omega, (by (repeat (first | exact trivial | refine ⟨⟨rfl, rfl⟩, ?_⟩ | refine ⟨⟨rfl, congrArg (SV.int .i64) ei⟩, ?_⟩))), ⟨_, rfl⟩⟩
    · have h4' : ¬ (i : Int) < 200 := by omega
      (repeat ((first | refine n_must rfl ?_ | refine n_chk (drawF_ok (by decide +kernel)) ?_ | refine n_same rfl ?_ | ((first | refine n_must ?_ ?_ | refine n_brT ?_ ?_); (focus (first | (simp [hil, h4']; done) | (simp [hil, h4']; omega) | (simp only [hil, h4']; simp; done)))) | (refine n_brF ?_ ?_; (focus (first | (simp [hil, h4']; done) | (simp [hil, h4']; omega) | (simp only [hil, h4']; simp; done)))) | refine n_must (by (with_reducible refine and_shape ?_) <;> kernel_rfl) ?_); (refine gs ?_)))
      refine n_exit rfl ?_
      (refine gs ?_)
      refine gw ?_
      refine n_callR (Y := Unit) 2 (fun _ => Res.none) (fun _ => .bool true) (fun _ => .bool true) (fun _ => True) rfl rfl (fun _ => rfl) rfl rfl rfl (fun _ w1 _ hI1 hR1 => (H.apart hB1 (by omega) hE1 hR1).mono fun e w' ⟨he, hf⟩ => ⟨(), he, trivial, hf, trivial, by simp [Res.none], by simp [Res.none]⟩) ?_
      intro _ _
      (refine gs ?_)
      refine gw ?_
      exact n_ret0 rfl rfl fun ids' w' hp hI' => ⟨rfl, hI'.frm⟩
  · (repeat ((first | refine n_must rfl ?_ | refine n_chk (drawF_ok (by decide +kernel)) ?_ | refine n_same rfl ?_ | ((first | refine n_must ?_ ?_ | refine n_brT ?_ ?_); (focus (first | (simp [hil]; done) | (simp [hil]; omega) | (simp only [hil]; simp; done)))) | (refine n_brF ?_ ?_; (focus (first | (simp [hil]; done) | (simp [hil]; omega) | (simp only [hil]; simp; done)))) | refine n_must (by (with_reducible refine and_shape ?_) <;> kernel_rfl) ?_); (refine gs ?_)))
    refine n_exit rfl ?_
    (refine gs ?_)
    refine gw ?_
    refine n_callR (Y := Unit) 2 (fun _ => Res.none) (fun _ => .bool true) (fun _ => .bool true) (fun _ => True) rfl rfl (fun _ => rfl) rfl rfl rfl (fun _ w1 _ hI1 hR1 => (H.apart hB1 (by omega) hE1 hR1).mono fun e w' ⟨he, hf⟩ => ⟨(), he, trivial, hf, trivial, by simp [Res.none], by simp [Res.none]⟩) ?_
    intro _ _
    (refine gs ?_)
    refine gw ?_
    exact n_ret0 rfl rfl fun ids' w' hp hI' => ⟨rfl, hI'.frm⟩
end Go.Proofs.Ytcpecnpnnodfhaa
