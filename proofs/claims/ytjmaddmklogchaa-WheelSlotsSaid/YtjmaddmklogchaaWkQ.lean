/- Chapter 5's law: plays. -/
import Derived.Test.YtjmaddmklogchaaWkO
set_option maxRecDepth 100000
set_option linter.unusedSimpArgs false
set_option linter.unusedVariables false
set_option maxHeartbeats 8000000
namespace Go.Proofs.Ytjmaddmklogchaa
open Go.RowKit

theorem aggAc : aggB Try.prog 35 = some true := by kernel_rfl
theorem sizeAc : sizeB Try.prog 35 = some 4 := by kernel_rfl
abbrev acRes (o : Option Addr) (S : List Ac) : Res := readRes o (S.flatMap Ac.l)
theorem ac_load {a : Addr} {S : List Ac} {w : World} (h : (acRes (some a) S).R w) {i : Nat} {x : Ac} (hx : S[i]? = some x) {ad : Addr} (had : ad = a.add (i * 4)) : (loadVar 35 ad).run Try.prog w = .ok x.val w :=
  load_row (l := x.l) aggAc sizeAc fun j u hu => rd_at ac_len h hx (j := j) (by have := (List.getElem?_eq_some_iff.1 hu).1; simpa using this) hu (by rw [had, add_add])
theorem ke0k : (Ke.k ⟨none, 0, [], none, 0, [], []⟩).ok 0 := ⟨kp0_ok, by simp⟩
theorem ke0l : (Ke.l ⟨none, 0, none, 0, []⟩).ok 0 := ⟨by simp, by simp⟩
theorem plays_bad {n lo hi : Int} {late : Bool} {v : Value} {o : Option Addr} {len cap : Nat} {w : World} (hn : n < 1 ∨ 64 < n) :
    Calls Try.prog 9 #[.int .i64 n, .slice o len cap, .int .i64 lo, .int .i64 hi, .bool late] w fun e w' => e = .returned (.bool true) ∧ Frm [] w w' := by
  have hI := Inv.nil (P := Try.prog) (N := 96) (S := []) (os := []) w
  refine calls_sm (cx 96 [] [] w) (vals := [.int .i64 n, .raw (.slice o len cap), .int .i64 lo, .int .i64 hi, .bool late]) mixed Try.func9 rfl rfl rfl hI rfl (st rfl ?_); conv => arg 3; whnf
  refine gw ?_
  refine n_sameP (.bool true) rfl rfl rfl (fun _ w1 hp1 hI1 => able_ok w1) ?_; (refine gs ?_)
  refine gw ?_
  refine n_sameP (.tup [.nilp, .int .i64 1]) rfl rfl rfl (fun _ w1 hp1 hI1 => wNewBad_ok n w1 hn) ?_; (refine gs ?_)
  refine gw ?_
  refine n_sameP (.tup [.nilp, .int .i64 1]) rfl rfl rfl (fun _ w1 hp1 hI1 => rNewBad_ok n w1 hn) ?_; (refine gs ?_)
  refine gw ?_
  exact n_ret0 rfl rfl fun ids' w' hp hI' => ⟨rfl, hI'.frm⟩
theorem plays_good {n lo hi : Int} {o : Option Addr} {S : List Ac} {cap : Nat} {w : World} (hn : 1 ≤ n ∧ n ≤ 64) (hR : (acRes o S).R w) (hS : ∀ a ∈ S, i64 a.a) (hl : S.length ≤ 9223372036854775806) :
    Calls Try.prog 9 #[.int .i64 n, .slice o S.length cap, .int .i64 lo, .int .i64 hi, .bool false] w fun e w' => e = .returned (.bool true) ∧ Frm [] w w' := by
  have hI := Inv.nil (P := Try.prog) (N := 96) (S := []) (os := []) w
  have hS1 : ∀ w1, Frm [] w w1 → (acRes o S).R w1 := fun w1 hf => (acRes o S).stable _ _ (fun k hk => hf.block k (rd_lt hR k hk) (by simp)) hR
  refine calls_sm (cx 96 [] [] w) (vals := [.int .i64 n, .raw (.slice o S.length cap), .int .i64 lo, .int .i64 hi, .lit false]) mixed Try.func9 rfl rfl rfl hI rfl (st rfl ?_); conv => arg 3; whnf
  refine gw ?_
  refine n_sameP (.bool true) rfl rfl rfl (fun _ w1 hp1 hI1 => able_ok w1) ?_; (refine gs ?_)
  refine gw ?_
  refine n_callN (fun y : Nat × Nat => whRes y.1 (Wh.new n.toNat y.2)) 58 (fun y => .tup [.raw (pV y.1), .int .i64 0]) (fun y => .tuple #[pV y.1, .int .i64 0]) (fun _ => True) rfl rfl rfl (fun _ => rfl) (fun w1 hI1 => wNew_ok n w1 hn) ?_
  rintro ⟨p, mb⟩ _ _
  dsimp only
  (refine gs ?_)
  refine gw ?_
  refine n_callN (fun y : Nat => rfRes y ⟨none, 0, ⟨[], 0, 0⟩⟩) 66 (fun y => .tup [.raw (pV y), .int .i64 0]) (fun y => .tuple #[pV y, .int .i64 0]) (fun _ => True) rfl rfl rfl (fun _ => rfl) (fun w1 hI1 => rNew_ok n w1 hn) ?_
  intro q _ _
  (refine gs ?_)
  refine gw ?_
  refine n_loop1 rfl fun b => ?_
  refine n_loopX [0, 0, 0, 0] (stM p q b (((0, Wh.new n.toNat mb, (⟨none, 0, ⟨[], 0, 0⟩⟩ : Rf), Ke.k ⟨none, 0, [], none, 0, [], []⟩) : Nat × Wh × Rf × Ke)).2.1 (((0, Wh.new n.toNat mb, (⟨none, 0, ⟨[], 0, 0⟩⟩ : Rf), Ke.k ⟨none, 0, [], none, 0, [], []⟩) : Nat × Wh × Rf × Ke)).2.2.1 (((0, Wh.new n.toNat mb, (⟨none, 0, ⟨[], 0, 0⟩⟩ : Rf), Ke.k ⟨none, 0, [], none, 0, [], []⟩) : Nat × Wh × Rf × Ke)).2.2.2 ++ [⟨31, [.res Res.none], true⟩, ⟨3, [.res Res.none], true⟩, ⟨54, [.res Res.none], true⟩, ⟨51, [.res Res.none], true⟩]) rfl (fun w1 hI1 => ?_) ?_
  · have h1 := hI1.addR (Frm.refl [] w1) (lsRow none 0 []) 31 true (rowRes_nil _ _ _) (by simp [rowRes]) (by simp [rowRes])
    have h2 := h1.addR (Frm.refl [] w1) (msRow none 0 []) 3 true (rowRes_nil _ _ _) (by simp [rowRes]) (by simp [rowRes])
    have h3 := h2.addR (Frm.refl [] w1) (rdsRes []) 54 true (fun x hx => by simp at hx) (by simp [rdsRes]) (by simp [rdsRes])
    have h4 := h3.gather (ids0 := [b, 0, 0, 0]) (mem0 := kpMem ⟨none, 0, [], none, 0, [], []⟩) [2, 3, 4, 5] (.blk rfl rfl rfl rfl (.res rfl (.res rfl (.res rfl .nil)))) (by decide) 51
    have h5 := h4.absorb 2 6 (by decide) rfl rfl rfl rfl rfl rfl
    exact h5.lessR 2 (ρ' := keRes b (Ke.k ⟨none, 0, [], none, 0, [], []⟩)) rfl rfl rfl (fun h => ⟨h.2.1, fun x hx => List.mem_append.2 (.inr hx)⟩)
  refine n_loop (σ := Nat × Wh × Rf × Ke) (fun t => [(1, .raw (.slice o S.length cap)), (2, .int .i64 lo), (3, .int .i64 hi), (11, .raw (pV p)), (13, .raw (pV q)), (15, .ptr 2 0), (16, .int .i64 (t.1 : Nat))]) (fun t => (stM p q b (t).2.1 (t).2.2.1 (t).2.2.2 ++ [⟨31, [.res Res.none], true⟩, ⟨3, [.res Res.none], true⟩, ⟨54, [.res Res.none], true⟩, ⟨51, [.res Res.none], true⟩])) (fun t => t.1 ≤ S.length ∧ t.1 ≤ 400 ∧ Stp t.1 n.toNat t.2.1 t.2.2.1 t.2.2.2) (fun t => S.length - t.1) (0, Wh.new n.toNat mb, (⟨none, 0, ⟨[], 0, 0⟩⟩ : Rf), (Ke.k ⟨none, 0, [], none, 0, [], []⟩)) mixed ⟨by dsimp only; omega, by dsimp only; omega, ⟨new_ok (by omega), rfl, rfl, ke0k⟩⟩ (fun _ _ => rfl) rfl (by (repeat (first | exact trivial | refine ⟨⟨rfl, rfl⟩, ?_⟩))) (fun s _ => ⟨by (repeat (first | exact trivial | refine ⟨⟨_, rfl⟩, ?_⟩)), by (repeat (first | exact trivial | refine ⟨⟨_, rfl⟩, ?_⟩))⟩) fun t ht => ?_
  obtain ⟨i, W, R, K⟩ := t
  obtain ⟨hi1, hi4, hst⟩ := ht
  dsimp only at hi1 hi4 hst ⊢
  (refine gs ?_)
  by_cases hil : i < S.length
  · by_cases h4 : i < 400
    · have ei : IntKind.i64.wrap ((i : Int) + 1) = ((i + 1 : Nat) : Int) := by rw [w64 (by omega) (by omega)]; simp
      have h4' : (i : Int) < 400 := by omega
      have hx : S[i]? = some S[i] := List.getElem?_eq_getElem _
      obtain ⟨ad, rfl⟩ := rd_some ac_len (by omega) hR (show 0 < S.length by omega)
      have hg := hS _ (List.getElem_mem hil)
      generalize S[i] = x at hx hg
      (repeat ((first | refine n_must rfl ?_ | refine n_chk (drawF_ok (by decide +kernel)) ?_ | refine n_same rfl ?_ | ((first | refine n_must ?_ ?_ | refine n_brT ?_ ?_); (focus (first | (simp [hil, h4']; done) | (simp [hil, h4']; omega) | (simp only [hil, h4']; simp; done)))) | (refine n_brF ?_ ?_; (focus (first | (simp [hil, h4']; done) | (simp [hil, h4']; omega) | (simp only [hil, h4']; simp; done)))) | refine n_must (by (with_reducible refine and_shape ?_) <;> kernel_rfl) ?_); (refine gs ?_)))
      (refine n_ldA (.agg x.sv) rfl (by first | exact trivial | rfl) rfl (fun _ w1 _ hI1 => ac_load (hS1 _ hI1.frm) hx rfl) ?_; (refine gs ?_))
      (repeat ((first | refine n_must rfl ?_ | refine n_chk (drawF_ok (by decide +kernel)) ?_ | refine n_same rfl ?_ | ((first | refine n_must ?_ ?_ | refine n_brT ?_ ?_); (focus (first | (simp [hil, h4']; done) | (simp [hil, h4']; omega) | (simp only [hil, h4']; simp; done)))) | (refine n_brF ?_ ?_; (focus (first | (simp [hil, h4']; done) | (simp [hil, h4']; omega) | (simp only [hil, h4']; simp; done)))) | refine n_must (by (with_reducible refine and_shape ?_) <;> kernel_rfl) ?_); (refine gs ?_)))
      refine n_callM (Y := Wh × Rf × Ke) [0, 0, b] (stM p q b W R K) _ (fun y => stM p q b y.1 y.2.1 y.2.2) (fun _ => .bool true) (fun _ => .bool true) (fun y => Stp (i + 1) n.toNat y.1 y.2.1 y.2.2) rfl rfl (fun _ => rfl) rfl ⟨_, rfl⟩ (fun _ _ => .res rfl (.res rfl (.res rfl .nil))) (fun j bl hj => ?_) (fun _ _ => rfl) (fun _ w1 _ hI1 hR1 => step_ok hst (by omega) hg hR1) ?_
      · match j, hj with
        | 0, hj => cases hj; rfl
        | 1, hj => cases hj; rfl
        | 2, hj => cases hj; rfl
      rintro ⟨W', R', K'⟩ hst'
      (refine gs ?_)
      refine gw ?_
      exact n_again ⟨(i + 1, W', R', K'), ⟨by dsimp only; omega, by dsimp only; omega, hst'⟩, by dsimp only; omega, (by (repeat (first | exact trivial | refine ⟨⟨rfl, rfl⟩, ?_⟩ | refine ⟨⟨rfl, congrArg (SV.int .i64) ei⟩, ?_⟩))), ⟨_, rfl⟩⟩
    · have h4' : ¬ (i : Int) < 400 := by omega
      (repeat ((first | refine n_must rfl ?_ | refine n_chk (drawF_ok (by decide +kernel)) ?_ | refine n_same rfl ?_ | ((first | refine n_must ?_ ?_ | refine n_brT ?_ ?_); (focus (first | (simp [hil, h4']; done) | (simp [hil, h4']; omega) | (simp only [hil, h4']; simp; done)))) | (refine n_brF ?_ ?_; (focus (first | (simp [hil, h4']; done) | (simp [hil, h4']; omega) | (simp only [hil, h4']; simp; done)))) | refine n_must (by (with_reducible refine and_shape ?_) <;> kernel_rfl) ?_); (refine gs ?_)))
      refine n_exit rfl ?_
      (refine gs ?_)
      refine gw ?_
      refine n_callR (Y := Unit) 2 (fun _ => Res.none) (fun _ => .bool true) (fun _ => .bool true) (fun _ => True) rfl rfl (fun _ => rfl) rfl rfl rfl (fun _ w1 _ hI1 hR1 => (kewhole_ok (by omega) hst.k hR1).mono fun e w' ⟨he, hf⟩ => ⟨(), he, trivial, hf, trivial, by simp [Res.none], by simp [Res.none]⟩) ?_
      intro _ _
      (refine gs ?_)
      refine gw ?_
      have hll : (listT W.s.A).length ≤ i := by rw [(listT_ok hst.w.s.up).1.length_eq]; exact hst.w.s.len
      refine n_callN (fun y : Option Addr × Nat => tRow y.1 (listT W.s.A).length y.2 (tms (listT W.s.A))) 54 (fun y => .raw (.slice y.1 (listT W.s.A).length y.2)) (fun y => .slice y.1 (listT W.s.A).length y.2) (fun _ => True) rfl rfl rfl (fun _ => rfl) (fun w1 hI1 => wList_ok hst.w (by omega) (hI1.res 0 rfl rfl)) ?_
      rintro ⟨o1, c1⟩ _ _
      (refine gs ?_)
      refine gw ?_
      have hRo : R.s.ok i := by rw [hst.e]; exact hst.w.s
      refine n_callN (fun y : Option Addr × Nat => tRow y.1 (listT R.s.A).length y.2 (tms (listT R.s.A))) 54 (fun y => .raw (.slice y.1 (listT R.s.A).length y.2)) (fun y => .slice y.1 (listT R.s.A).length y.2) (fun _ => True) rfl rfl rfl (fun _ => rfl) (fun w1 hI1 => rList_ok hRo (by omega) (hI1.res 1 rfl rfl)) ?_
      rintro ⟨o2, c2⟩ _ _
      rw [hst.e]
      (refine gs ?_)
      refine gw ?_
      refine n_sameP (.bool true) rfl rfl rfl (fun _ w1 hp1 hI1 => same_ok c1 c2 (rd_of_row (hI1.res 7 rfl rfl)) (rd_lt (rd_of_row (hI1.res 7 rfl rfl))) (rd_of_row (hI1.res 8 rfl rfl)) (rd_lt (rd_of_row (hI1.res 8 rfl rfl))) (by omega)) ?_; (refine gs ?_)
      refine gw ?_
      exact n_ret0 rfl rfl fun ids' w' hp hI' => ⟨rfl, hI'.frm⟩
  · (repeat ((first | refine n_must rfl ?_ | refine n_chk (drawF_ok (by decide +kernel)) ?_ | refine n_same rfl ?_ | ((first | refine n_must ?_ ?_ | refine n_brT ?_ ?_); (focus (first | (simp [hil]; done) | (simp [hil]; omega) | (simp only [hil]; simp; done)))) | (refine n_brF ?_ ?_; (focus (first | (simp [hil]; done) | (simp [hil]; omega) | (simp only [hil]; simp; done)))) | refine n_must (by (with_reducible refine and_shape ?_) <;> kernel_rfl) ?_); (refine gs ?_)))
    refine n_exit rfl ?_
    (refine gs ?_)
    refine gw ?_
    refine n_callR (Y := Unit) 2 (fun _ => Res.none) (fun _ => .bool true) (fun _ => .bool true) (fun _ => True) rfl rfl (fun _ => rfl) rfl rfl rfl (fun _ w1 _ hI1 hR1 => (kewhole_ok (by omega) hst.k hR1).mono fun e w' ⟨he, hf⟩ => ⟨(), he, trivial, hf, trivial, by simp [Res.none], by simp [Res.none]⟩) ?_
    intro _ _
    (refine gs ?_)
    refine gw ?_
    have hll : (listT W.s.A).length ≤ i := by rw [(listT_ok hst.w.s.up).1.length_eq]; exact hst.w.s.len
    refine n_callN (fun y : Option Addr × Nat => tRow y.1 (listT W.s.A).length y.2 (tms (listT W.s.A))) 54 (fun y => .raw (.slice y.1 (listT W.s.A).length y.2)) (fun y => .slice y.1 (listT W.s.A).length y.2) (fun _ => True) rfl rfl rfl (fun _ => rfl) (fun w1 hI1 => wList_ok hst.w (by omega) (hI1.res 0 rfl rfl)) ?_
    rintro ⟨o1, c1⟩ _ _
    (refine gs ?_)
    refine gw ?_
    have hRo : R.s.ok i := by rw [hst.e]; exact hst.w.s
    refine n_callN (fun y : Option Addr × Nat => tRow y.1 (listT R.s.A).length y.2 (tms (listT R.s.A))) 54 (fun y => .raw (.slice y.1 (listT R.s.A).length y.2)) (fun y => .slice y.1 (listT R.s.A).length y.2) (fun _ => True) rfl rfl rfl (fun _ => rfl) (fun w1 hI1 => rList_ok hRo (by omega) (hI1.res 1 rfl rfl)) ?_
    rintro ⟨o2, c2⟩ _ _
    rw [hst.e]
    (refine gs ?_)
    refine gw ?_
    refine n_sameP (.bool true) rfl rfl rfl (fun _ w1 hp1 hI1 => same_ok c1 c2 (rd_of_row (hI1.res 7 rfl rfl)) (rd_lt (rd_of_row (hI1.res 7 rfl rfl))) (rd_of_row (hI1.res 8 rfl rfl)) (rd_lt (rd_of_row (hI1.res 8 rfl rfl))) (by omega)) ?_; (refine gs ?_)
    refine gw ?_
    exact n_ret0 rfl rfl fun ids' w' hp hI' => ⟨rfl, hI'.frm⟩
end Go.Proofs.Ytjmaddmklogchaa
