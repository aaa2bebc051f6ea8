/- Package check: from, walked. -/
import Derived.Test.YtfcbcgjgkleonaaBnP
set_option maxRecDepth 100000
set_option linter.unusedSimpArgs false
set_option linter.unusedVariables false
set_option maxHeartbeats 16000000
namespace Go.Proofs.Ytfcbcgjgkleonaa
open Go.RowKit

theorem sort3 (p : Pa) : sortF p = 0 ∨ sortF p = 1 ∨ sortF p = 2 := by
  unfold sortF
  repeat' split
  all_goals simp
theorem sFrom_ok {p : Nat} {a : SA} {S : Srch} (ok : S.ok) : ∀ (n sd : Nat) {A0 A : All} {V : Vm} {pm mb : Nat} {w : World}, n ≤ 100 → sd < 4096 → unset S sd < n → Same A0 A → AllOk A → (srRes p a S).R w → (mapRes pm mb A).R w → (vmRes a.vb V).R w →
    (∀ x ∈ (srRes p a S).fp, x < w.heap.size) → (∀ x ∈ (vmRes a.vb V).fp, x < w.heap.size) → (∀ x ∈ (srRes p a S).fp, x ∉ (mapRes pm mb A).fp) → (∀ x ∈ (srRes p a S).fp, x ∉ (vmRes a.vb V).fp) → (∀ x ∈ (mapRes pm mb A).fp, x ∉ (vmRes a.vb V).fp) →
    Calls Try.prog 32 #[pV p, .int .i64 sd, pV pm] w fun e w' => ∃ y : Option Addr × Nat, e = .returned (.tuple #[.slice y.1 (ansL (fromF S n sd A0 V)).length y.2, .bool (fromF S n sd A0 V).1.isSome]) ∧ True ∧ Post (vmRes a.vb V) ((vmRes a.vb (fromF S n sd A0 V).2).both (oRes y (ansL (fromF S n sd A0 V)))) w w' := by
  obtain ⟨iti, hiti, hpi9⟩ := Option.map_eq_some_iff.1 infoInt
  simp only [Prod.mk.injEq] at hpi9
  obtain ⟨ho, hc, so, sc, dd, dc, no, nc, vb⟩ := a
  intro n
  induction n with
  | zero => intro sd A0 A V pm mb w _ _ h; omega
  | succ n ih =>
  intro sd A0 A V pm mb w hn100 hst hun hsame aok hS hA hV hSlt hVlt hap1 hap2 hap3
  have hN := ok.n
  have hK := ok.ns
  have hI0 : Inv (cx 231 [] (vmRes vb V).fp w) w [0] [⟨77, [.res (srRes p ⟨ho, hc, so, sc, dd, dc, no, nc, vb⟩ S)], false⟩] := (Inv.nil w).consR (by simp) hS hSlt (by simp)
  have hI1 := hI0.consR (t := 108) (rw_ := false) (r := mapRes pm mb A) (fun x hx hm => hap1 x (by simpa [fpsOf, fpOf, resOf] using hm) hx) hA (mapRes_lt hA) (by simp)
  have hI := hI1.consR (t := 73) (rw_ := true) (r := vmRes vb V) (fun x hx hm => by
    have hm' : x ∈ (srRes p ⟨ho, hc, so, sc, dd, dc, no, nc, vb⟩ S).fp ∨ x ∈ (mapRes pm mb A).fp := by simpa [fpsOf, fpOf, resOf] using hm
    rcases hm' with hm | hm
    · exact hap2 x hm hx
    · exact hap3 x hm hx) hV hVlt (by simp)
  refine calls_sm (cx 231 [] (vmRes vb V).fp w) (vals := [.raw (pV p), .int .i64 (sd : Nat), .raw (pV pm)]) mixed Try.func32 rfl rfl rfl hI rfl (st rfl ?_); conv => arg 3; whnf
  dsimp only
  generalize hR : fromF S (n + 1) sd A0 V = R
  have hF : R = if leftF S sd = false then (some [], V) else if (mget V (keyF S sd A0)).getD false = true then (none, V) else tryF (fromF S n) S sd A0 (List.range S.n) V := by rw [← hR]; rfl
  rw [← keyF_like hsame] at hF
  have hkok := key_ok (S := S) aok hst
  clear hR
  refine gw ?_
  refine n_ldI (.raw (.slice no S.Ns.length nc)) rfl rfl (fun _ w1 _ hI1 => load_cell aggStrs (sr_cell (p := p) (a := ⟨ho, hc, so, sc, dd, dc, no, nc, vb⟩) (S := S) (hI1.res 0 rfl rfl) 3 rfl rfl)) ?_
  (refine st rfl ?_; conv => arg 3; whnf)
  refine gw ?_
  refine n_loop1 rfl fun b3 => ?_
  refine n_loop (σ := Nat) (fun k => [(0, .raw (pV p)), (1, .int .i64 (sd : Nat)), (2, .raw (pV pm)), (8, .ptr 3 0), (28, .raw (.slice no S.Ns.length nc)), (29, .int .i64 (S.Ns.length : Nat)), (30, .int .i64 (k : Nat))]) (fun k => [⟨77, [.res (srRes p ⟨ho, hc, so, sc, dd, dc, no, nc, vb⟩ S)], false⟩, ⟨108, [.res (mapRes pm mb A)], false⟩, ⟨73, [.res (vmRes vb V)], true⟩] ++ [⟨102, (keyL S sd A k).map (SV.int .i64), true⟩]) (fun k => k ≤ S.Ns.length) (fun k => S.Ns.length - k) 0 mixed (by omega) (fun _ _ => rfl) rfl (by (repeat (first | exact trivial | refine ⟨⟨rfl, rfl⟩, ?_⟩))) (fun s _ => ⟨by (repeat (first | exact trivial | refine ⟨⟨_, rfl⟩, ?_⟩)), by (repeat (first | exact trivial | refine ⟨⟨_, rfl⟩, ?_⟩))⟩) fun k hk => ?_
  (refine st rfl ?_; conv => arg 3; whnf)
  by_cases hkl : k < S.Ns.length
  · have hs := rowRes_some' (sr_n hS) (show 0 < S.Ns.length by omega)
    dsimp only at hs
    obtain ⟨g, rfl⟩ := hs
    have hx : S.Ns[k]? = some S.Ns[k] := List.getElem?_eq_getElem _
    have hnm := ok.nm S.Ns[k] (List.getElem_mem hkl)
    generalize S.Ns[k] = nm at hx hnm
    have hnd : S.Ns[k]?.getD { data := #[] } = nm := by rw [hx]; rfl
    refine gw ?_
    refine n_ldI (.str nm) rfl rfl (fun _ w1 _ hI1 => load_cell aggStr (rw_cell (sr_n (hI1.res 0 rfl rfl)) rfl (i := k) (by simp [hx]) rfl)) ?_
    (refine st rfl ?_; conv => arg 3; whnf)
    refine gw ?_
    refine n_sameP (.tup [.int .i64 ((peek3 A nm).getD 0 0), .int .i64 ((peek3 A nm).getD 1 0), .int .i64 ((peek3 A nm).getD 2 0), .bool (mget A nm).isSome]) rfl rfl rfl (fun _ w1 hp1 hI1 => by have h := Peek_ok (hI1.res 1 rfl rfl) nm hnm; rw [peek_val] at h; exact h) ?_; (refine st rfl ?_; conv => arg 3; whnf)
    have hk12 : k < 12 := by omega
    obtain rfl | rfl | rfl | rfl | rfl | rfl | rfl | rfl | rfl | rfl | rfl | rfl : k = 0 ∨ k = 1 ∨ k = 2 ∨ k = 3 ∨ k = 4 ∨ k = 5 ∨ k = 6 ∨ k = 7 ∨ k = 8 ∨ k = 9 ∨ k = 10 ∨ k = 11 := by omega
    · refine gw ?_
      exact n_again ⟨1, by omega, by omega, (by (repeat (first | exact trivial | refine ⟨⟨rfl, rfl⟩, ?_⟩))), ⟨[], by simp [keyL, kcF, hnd]⟩⟩
    · refine gw ?_
      exact n_again ⟨2, by omega, by omega, (by (repeat (first | exact trivial | refine ⟨⟨rfl, rfl⟩, ?_⟩))), ⟨[], by simp [keyL, kcF, hnd]⟩⟩
    · refine gw ?_
      exact n_again ⟨3, by omega, by omega, (by (repeat (first | exact trivial | refine ⟨⟨rfl, rfl⟩, ?_⟩))), ⟨[], by simp [keyL, kcF, hnd]⟩⟩
    · refine gw ?_
      exact n_again ⟨4, by omega, by omega, (by (repeat (first | exact trivial | refine ⟨⟨rfl, rfl⟩, ?_⟩))), ⟨[], by simp [keyL, kcF, hnd]⟩⟩
    · refine gw ?_
      exact n_again ⟨5, by omega, by omega, (by (repeat (first | exact trivial | refine ⟨⟨rfl, rfl⟩, ?_⟩))), ⟨[], by simp [keyL, kcF, hnd]⟩⟩
    · refine gw ?_
      exact n_again ⟨6, by omega, by omega, (by (repeat (first | exact trivial | refine ⟨⟨rfl, rfl⟩, ?_⟩))), ⟨[], by simp [keyL, kcF, hnd]⟩⟩
    · refine gw ?_
      exact n_again ⟨7, by omega, by omega, (by (repeat (first | exact trivial | refine ⟨⟨rfl, rfl⟩, ?_⟩))), ⟨[], by simp [keyL, kcF, hnd]⟩⟩
    · refine gw ?_
      exact n_again ⟨8, by omega, by omega, (by (repeat (first | exact trivial | refine ⟨⟨rfl, rfl⟩, ?_⟩))), ⟨[], by simp [keyL, kcF, hnd]⟩⟩
    · refine gw ?_
      exact n_again ⟨9, by omega, by omega, (by (repeat (first | exact trivial | refine ⟨⟨rfl, rfl⟩, ?_⟩))), ⟨[], by simp [keyL, kcF, hnd]⟩⟩
    · refine gw ?_
      exact n_again ⟨10, by omega, by omega, (by (repeat (first | exact trivial | refine ⟨⟨rfl, rfl⟩, ?_⟩))), ⟨[], by simp [keyL, kcF, hnd]⟩⟩
    · refine gw ?_
      exact n_again ⟨11, by omega, by omega, (by (repeat (first | exact trivial | refine ⟨⟨rfl, rfl⟩, ?_⟩))), ⟨[], by simp [keyL, kcF, hnd]⟩⟩
    · refine gw ?_
      exact n_again ⟨12, by omega, by omega, (by (repeat (first | exact trivial | refine ⟨⟨rfl, rfl⟩, ?_⟩))), ⟨[], by simp [keyL, kcF, hnd]⟩⟩
  obtain rfl : k = S.Ns.length := by omega
  refine gw ?_
  refine n_exit rfl ?_
  (refine st rfl ?_; conv => arg 3; whnf)
  refine gw ?_
  have hkey : keyL S sd A S.Ns.length = keyF S sd A := rfl
  refine n_ldI (.raw (.slice so (S.L.map sortF).length sc)) rfl rfl (fun _ w1 _ hI1 => load_cell aggSorts (sr_cell (p := p) (a := ⟨ho, hc, so, sc, dd, dc, no, nc, vb⟩) (S := S) (hI1.res 0 rfl rfl) 1 rfl rfl)) ?_
  (refine st rfl ?_; conv => arg 3; whnf)
  refine gw ?_
  have hn0 : (S.L.map sortF).length = S.n := by simp
  rw [hn0]
  refine n_loop (σ := Nat × Bool) (fun t => [(0, .raw (pV p)), (1, .int .i64 (sd : Nat)), (2, .raw (pV pm)), (8, .ptr 3 0), (11, svB t.2 ((List.range t.1).any fun i => decide (sortF (S.p i) = 2) && !sd.testBit i)), (59, .raw (.slice so S.n sc)), (60, .int .i64 (S.n : Nat)), (61, .int .i64 (t.1 : Nat))]) (fun _ => [⟨77, [.res (srRes p ⟨ho, hc, so, sc, dd, dc, no, nc, vb⟩ S)], false⟩, ⟨108, [.res (mapRes pm mb A)], false⟩, ⟨73, [.res (vmRes vb V)], true⟩] ++ [⟨102, (keyL S sd A S.Ns.length).map (SV.int .i64), true⟩]) (fun t => t.1 ≤ S.n) (fun t => S.n - t.1) (0, true) mixed (by simp) (fun _ _ => rfl) rfl (by (repeat (first | exact trivial | refine ⟨⟨rfl, rfl⟩, ?_⟩))) (fun t _ => ⟨by obtain ⟨t, k⟩ := t; cases k <;> cases h : ((List.range t).any fun i => decide (sortF (S.p i) = 2) && !sd.testBit i) <;> dsimp only <;> (repeat (first | exact trivial | refine ⟨⟨_, rfl⟩, ?_⟩)), by (repeat (first | exact trivial | refine ⟨⟨_, rfl⟩, ?_⟩))⟩) fun t ht => ?_
  obtain ⟨i, kd⟩ := t
  dsimp only at ht ⊢
  by_cases hil : i < S.n
  · have ei : IntKind.i64.wrap ((i : Int) + 1) = ((i + 1 : Nat) : Int) := by rw [w64 (by omega) (by omega)]; simp
    have hs := rowRes_some' (sr_s hS) (show 0 < (S.L.map sortF).length by rw [hn0]; omega)
    dsimp only at hs
    obtain ⟨g, rfl⟩ := hs
    have hx : S.L[i]? = some S.L[i] := List.getElem?_eq_getElem hil
    have hpi : S.p i = S.L[i] := by simp [Srch.p, List.getD, hx]
    have hnx : ((List.range (i + 1)).any fun i => decide (sortF (S.p i) = 2) && !sd.testBit i) = (((List.range i).any fun i => decide (sortF (S.p i) = 2) && !sd.testBit i) || (decide (sortF (S.p i) = 2) && !sd.testBit i)) := by rw [List.range_succ, List.any_append]; simp
    have hbit := bit_shr sd i hst (by omega)
    rw [hpi] at hnx
    generalize S.L[i] = q at hx hnx
    generalize ((List.range i).any fun i => decide (sortF (S.p i) = 2) && !sd.testBit i) = T at hnx
    cases kd with
    | true =>
      cases T with
      | true =>
        (refine st rfl ?_; conv => arg 3; whnf)
        refine gw ?_
        refine n_ldI (.int .i64 (sortF q)) rfl rfl (fun _ w1 _ hI1 => load_cell aggSort (rw_cell (sr_s (hI1.res 0 rfl rfl)) rfl (i := i) (by simp [hx]) rfl)) ?_
        (refine st rfl ?_; conv => arg 3; whnf)
        refine gw ?_
        rw [Bool.true_or] at hnx
        refine n_again ⟨(i + 1, true), by dsimp only; omega, by dsimp only; omega, ?_, ⟨_, rfl⟩⟩
        dsimp only
        rw [hnx]; exact (by (repeat (first | exact trivial | refine ⟨⟨rfl, rfl⟩, ?_⟩ | refine ⟨⟨rfl, congrArg (SV.int .i64) ei⟩, ?_⟩)))
      | false =>
        (refine st rfl ?_; conv => arg 3; whnf)
        refine gw ?_
        refine n_ldI (.int .i64 (sortF q)) rfl rfl (fun _ w1 _ hI1 => load_cell aggSort (rw_cell (sr_s (hI1.res 0 rfl rfl)) rfl (i := i) (by simp [hx]) rfl)) ?_
        (refine st rfl ?_; conv => arg 3; whnf)
        refine gw ?_
        rw [Bool.false_or] at hnx
        by_cases h2 : sortF q = 2
        · rw [decide_eq_true h2, Bool.true_and] at hnx
          (repeat ((first | refine n_must rfl ?_ | refine n_chk (drawF_ok (by decide +kernel)) ?_ | refine n_same rfl ?_ | ((first | refine n_must ?_ ?_ | refine n_brT ?_ ?_); (focus (first | (simp [h2]; done) | (simp [h2]; omega) | (simp only [h2]; simp; done)))) | (refine n_brF ?_ ?_; (focus (first | (simp [h2]; done) | (simp [h2]; omega) | (simp only [h2]; simp; done)))) | refine n_must (by (with_reducible refine and_shape ?_) <;> kernel_rfl) ?_); (refine st rfl ?_; conv => arg 3; whnf)))
          have hcq : (andI .i64 (shrI .i64 (sd : Int) (i : Int)) 1 == 0) = !sd.testBit i := by rw [hbit]; cases sd.testBit i <;> simp
          refine n_again ⟨(i + 1, false), by dsimp only; omega, by dsimp only; omega, ?_, ⟨_, rfl⟩⟩
          dsimp only
          rw [hnx]; exact (by (repeat (first | exact trivial | refine ⟨⟨rfl, rfl⟩, ?_⟩ | refine ⟨⟨rfl, congrArg (SV.int .i64) ei⟩, ?_⟩ | refine ⟨⟨rfl, congrArg SV.bool hcq⟩, ?_⟩)))
        · rw [decide_eq_false h2, Bool.false_and] at hnx
          (repeat ((first | refine n_must rfl ?_ | refine n_chk (drawF_ok (by decide +kernel)) ?_ | refine n_same rfl ?_ | ((first | refine n_must ?_ ?_ | refine n_brT ?_ ?_); (focus (first | (simp [h2]; done) | (simp [h2]; omega) | (simp only [h2]; simp; done)))) | (refine n_brF ?_ ?_; (focus (first | (simp [h2]; done) | (simp [h2]; omega) | (simp only [h2]; simp; done)))) | refine n_must (by (with_reducible refine and_shape ?_) <;> kernel_rfl) ?_); (refine st rfl ?_; conv => arg 3; whnf)))
          refine n_again ⟨(i + 1, true), by dsimp only; omega, by dsimp only; omega, ?_, ⟨_, rfl⟩⟩
          dsimp only
          rw [hnx]; exact (by (repeat (first | exact trivial | refine ⟨⟨rfl, rfl⟩, ?_⟩ | refine ⟨⟨rfl, congrArg (SV.int .i64) ei⟩, ?_⟩)))
    | false =>
      cases T with
      | true =>
        (refine st rfl ?_; conv => arg 3; whnf)
        refine gw ?_
        refine n_ldI (.int .i64 (sortF q)) rfl rfl (fun _ w1 _ hI1 => load_cell aggSort (rw_cell (sr_s (hI1.res 0 rfl rfl)) rfl (i := i) (by simp [hx]) rfl)) ?_
        (refine st rfl ?_; conv => arg 3; whnf)
        refine gw ?_
        rw [Bool.true_or] at hnx
        refine n_again ⟨(i + 1, true), by dsimp only; omega, by dsimp only; omega, ?_, ⟨_, rfl⟩⟩
        dsimp only
        rw [hnx]; exact (by (repeat (first | exact trivial | refine ⟨⟨rfl, rfl⟩, ?_⟩ | refine ⟨⟨rfl, congrArg (SV.int .i64) ei⟩, ?_⟩)))
      | false =>
        (refine st rfl ?_; conv => arg 3; whnf)
        refine gw ?_
        refine n_ldI (.int .i64 (sortF q)) rfl rfl (fun _ w1 _ hI1 => load_cell aggSort (rw_cell (sr_s (hI1.res 0 rfl rfl)) rfl (i := i) (by simp [hx]) rfl)) ?_
        (refine st rfl ?_; conv => arg 3; whnf)
        refine gw ?_
        rw [Bool.false_or] at hnx
        by_cases h2 : sortF q = 2
        · rw [decide_eq_true h2, Bool.true_and] at hnx
          (repeat ((first | refine n_must rfl ?_ | refine n_chk (drawF_ok (by decide +kernel)) ?_ | refine n_same rfl ?_ | ((first | refine n_must ?_ ?_ | refine n_brT ?_ ?_); (focus (first | (simp [h2]; done) | (simp [h2]; omega) | (simp only [h2]; simp; done)))) | (refine n_brF ?_ ?_; (focus (first | (simp [h2]; done) | (simp [h2]; omega) | (simp only [h2]; simp; done)))) | refine n_must (by (with_reducible refine and_shape ?_) <;> kernel_rfl) ?_); (refine st rfl ?_; conv => arg 3; whnf)))
          have hcq : (andI .i64 (shrI .i64 (sd : Int) (i : Int)) 1 == 0) = !sd.testBit i := by rw [hbit]; cases sd.testBit i <;> simp
          refine n_again ⟨(i + 1, false), by dsimp only; omega, by dsimp only; omega, ?_, ⟨_, rfl⟩⟩
          dsimp only
          rw [hnx]; exact (by (repeat (first | exact trivial | refine ⟨⟨rfl, rfl⟩, ?_⟩ | refine ⟨⟨rfl, congrArg (SV.int .i64) ei⟩, ?_⟩ | refine ⟨⟨rfl, congrArg SV.bool hcq⟩, ?_⟩)))
        · rw [decide_eq_false h2, Bool.false_and] at hnx
          (repeat ((first | refine n_must rfl ?_ | refine n_chk (drawF_ok (by decide +kernel)) ?_ | refine n_same rfl ?_ | ((first | refine n_must ?_ ?_ | refine n_brT ?_ ?_); (focus (first | (simp [h2]; done) | (simp [h2]; omega) | (simp only [h2]; simp; done)))) | (refine n_brF ?_ ?_; (focus (first | (simp [h2]; done) | (simp [h2]; omega) | (simp only [h2]; simp; done)))) | refine n_must (by (with_reducible refine and_shape ?_) <;> kernel_rfl) ?_); (refine st rfl ?_; conv => arg 3; whnf)))
          refine n_again ⟨(i + 1, true), by dsimp only; omega, by dsimp only; omega, ?_, ⟨_, rfl⟩⟩
          dsimp only
          rw [hnx]; exact (by (repeat (first | exact trivial | refine ⟨⟨rfl, rfl⟩, ?_⟩ | refine ⟨⟨rfl, congrArg (SV.int .i64) ei⟩, ?_⟩)))
  obtain rfl : i = S.n := by omega
  have hleft : ((List.range S.n).any fun i => decide (sortF (S.p i) = 2) && !sd.testBit i) = leftF S sd := rfl
  rw [hleft]
  cases hL : leftF S sd with
  | false =>
    rw [hL, if_pos rfl] at hF
    subst hF
    cases kd with
    | true =>
      (refine st rfl ?_; conv => arg 3; whnf)
      refine gw ?_
      refine n_exit rfl ?_
      (refine st rfl ?_; conv => arg 3; whnf)
      refine gw ?_
      exact n_ret0 rfl rfl fun ids' w' hp hI' => ⟨(none, 0), rfl, trivial, nil_post hI' rfl 2 rfl⟩
    | false =>
      (refine st rfl ?_; conv => arg 3; whnf)
      refine gw ?_
      refine n_exit rfl ?_
      (refine st rfl ?_; conv => arg 3; whnf)
      refine gw ?_
      exact n_ret0 rfl rfl fun ids' w' hp hI' => ⟨(none, 0), rfl, trivial, nil_post hI' rfl 2 rfl⟩
  | true =>
    rw [hL, if_neg (by simp)] at hF
    by_cases hv : (mget V (keyF S sd A)).getD false = true
    · rw [if_pos hv] at hF
      subst hF
      cases kd with
      | true =>
        (refine st rfl ?_; conv => arg 3; whnf)
        refine gw ?_
        refine n_exit rfl ?_
        (refine st rfl ?_; conv => arg 3; whnf)
        refine gw ?_
        refine n_ldDI (.raw (.map (some vb))) rfl rfl (fun _ w1 _ hI1 => load_cell aggVm (sr_cell (p := p) (a := ⟨ho, hc, so, sc, dd, dc, no, nc, vb⟩) (S := S) (hI1.res 0 rfl rfl) 4 rfl rfl)) ?_
        (refine st rfl ?_; conv => arg 3; whnf)
        refine gw ?_
        refine n_lookup (E := stateE) (ev' := boolV) (b := vb) (zr := .lit false) (z := .bool false) V (keyF S sd A) (.bool ((mget V (keyF S sd A)).getD false)) stateK rfl rfl rfl rfl rfl rfl hkok rfl rfl (by cases mget V (keyF S sd A) <;> rfl) (fun _ w1 _ hI1 => by exact hI1.res 2 rfl rfl) ?_
        (refine st rfl ?_; conv => arg 3; whnf)
        (repeat ((first | refine n_must rfl ?_ | refine n_chk (drawF_ok (by decide +kernel)) ?_ | refine n_same rfl ?_ | ((first | refine n_must ?_ ?_ | refine n_brT ?_ ?_); (focus (first | (simp [hv]; done) | (simp [hv]; omega) | (simp only [hv]; simp; done)))) | (refine n_brF ?_ ?_; (focus (first | (simp [hv]; done) | (simp [hv]; omega) | (simp only [hv]; simp; done)))) | refine n_must (by (with_reducible refine and_shape ?_) <;> kernel_rfl) ?_); (refine st rfl ?_; conv => arg 3; whnf)))
        exact n_ret0 rfl rfl fun ids' w' hp hI' => ⟨(none, 0), rfl, trivial, nil_post hI' rfl 2 rfl⟩
      | false =>
        (refine st rfl ?_; conv => arg 3; whnf)
        refine gw ?_
        refine n_exit rfl ?_
        (refine st rfl ?_; conv => arg 3; whnf)
        refine gw ?_
        refine n_ldDI (.raw (.map (some vb))) rfl rfl (fun _ w1 _ hI1 => load_cell aggVm (sr_cell (p := p) (a := ⟨ho, hc, so, sc, dd, dc, no, nc, vb⟩) (S := S) (hI1.res 0 rfl rfl) 4 rfl rfl)) ?_
        (refine st rfl ?_; conv => arg 3; whnf)
        refine gw ?_
        refine n_lookup (E := stateE) (ev' := boolV) (b := vb) (zr := .lit false) (z := .bool false) V (keyF S sd A) (.bool ((mget V (keyF S sd A)).getD false)) stateK rfl rfl rfl rfl rfl rfl hkok rfl rfl (by cases mget V (keyF S sd A) <;> rfl) (fun _ w1 _ hI1 => by exact hI1.res 2 rfl rfl) ?_
        (refine st rfl ?_; conv => arg 3; whnf)
        (repeat ((first | refine n_must rfl ?_ | refine n_chk (drawF_ok (by decide +kernel)) ?_ | refine n_same rfl ?_ | ((first | refine n_must ?_ ?_ | refine n_brT ?_ ?_); (focus (first | (simp [hv]; done) | (simp [hv]; omega) | (simp only [hv]; simp; done)))) | (refine n_brF ?_ ?_; (focus (first | (simp [hv]; done) | (simp [hv]; omega) | (simp only [hv]; simp; done)))) | refine n_must (by (with_reducible refine and_shape ?_) <;> kernel_rfl) ?_); (refine st rfl ?_; conv => arg 3; whnf)))
        exact n_ret0 rfl rfl fun ids' w' hp hI' => ⟨(none, 0), rfl, trivial, nil_post hI' rfl 2 rfl⟩
    rw [if_neg hv] at hF
    have hv' : (mget V (keyF S sd A)).getD false = false := by simpa using hv
    apply later
    · intro hB
      cases kd with
      | true =>
        (refine st rfl ?_; conv => arg 3; whnf)
        refine gw ?_
        refine n_exit rfl ?_
        (refine st rfl ?_; conv => arg 3; whnf)
        refine gw ?_
        refine n_ldDI (.raw (.map (some vb))) rfl rfl (fun _ w1 _ hI1 => load_cell aggVm (sr_cell (p := p) (a := ⟨ho, hc, so, sc, dd, dc, no, nc, vb⟩) (S := S) (hI1.res 0 rfl rfl) 4 rfl rfl)) ?_
        (refine st rfl ?_; conv => arg 3; whnf)
        refine gw ?_
        refine n_lookup (E := stateE) (ev' := boolV) (b := vb) (zr := .lit false) (z := .bool false) V (keyF S sd A) (.bool ((mget V (keyF S sd A)).getD false)) stateK rfl rfl rfl rfl rfl rfl hkok rfl rfl (by cases mget V (keyF S sd A) <;> rfl) (fun _ w1 _ hI1 => by exact hI1.res 2 rfl rfl) ?_
        (refine st rfl ?_; conv => arg 3; whnf)
        (repeat ((first | refine n_must rfl ?_ | refine n_chk (drawF_ok (by decide +kernel)) ?_ | refine n_same rfl ?_ | ((first | refine n_must ?_ ?_ | refine n_brT ?_ ?_); (focus (first | (simp [hv']; done) | (simp [hv']; omega) | (simp only [hv']; simp; done)))) | (refine n_brF ?_ ?_; (focus (first | (simp [hv']; done) | (simp [hv']; omega) | (simp only [hv']; simp; done)))) | refine n_must (by (with_reducible refine and_shape ?_) <;> kernel_rfl) ?_); (refine st rfl ?_; conv => arg 3; whnf)))
        refine n_ldI (.raw (.slice ho S.n hc)) rfl rfl (fun _ w1 _ hI1 => load_cell aggPasts (sr_cell (p := p) (a := ⟨ho, hc, so, sc, dd, dc, no, nc, vb⟩) (S := S) (hI1.res 0 rfl rfl) 0 rfl rfl)) ?_
        (refine st rfl ?_; conv => arg 3; whnf)
        refine gw ?_
        refine n_loopM (σ := Nat × Vm) (fun t => [(0, .raw (pV p)), (1, .int .i64 (sd : Nat)), (2, .raw (pV pm)), (8, .ptr 3 0), (90, .raw (.slice ho S.n hc)), (91, .int .i64 (S.n : Nat)), (92, .int .i64 (t.1 : Nat))]) (fun t => [⟨77, [.res (srRes p ⟨ho, hc, so, sc, dd, dc, no, nc, vb⟩ S)], false⟩, ⟨108, [.res (mapRes pm mb A)], false⟩, ⟨73, [.res (vmRes vb t.2)], true⟩] ++ [⟨102, (keyL S sd A S.Ns.length).map (SV.int .i64), true⟩]) (fun t => t.1 ≤ S.n ∧ R = tryF (fromF S n) S sd A0 ((List.range S.n).drop t.1) t.2) (fun t => S.n - t.1) (0, V) mixed ⟨by simp, by simpa using hF⟩ (fun _ _ => rfl) (fun w h => h) rfl (by (repeat (first | exact trivial | refine ⟨⟨rfl, rfl⟩, ?_⟩))) (fun s _ => ⟨by (repeat (first | exact trivial | refine ⟨⟨_, rfl⟩, ?_⟩)), by (repeat (first | exact trivial | refine ⟨⟨_, rfl⟩, ?_⟩))⟩) ?_
        exact hB.1
      | false =>
        (refine st rfl ?_; conv => arg 3; whnf)
        refine gw ?_
        refine n_exit rfl ?_
        (refine st rfl ?_; conv => arg 3; whnf)
        refine gw ?_
        refine n_ldDI (.raw (.map (some vb))) rfl rfl (fun _ w1 _ hI1 => load_cell aggVm (sr_cell (p := p) (a := ⟨ho, hc, so, sc, dd, dc, no, nc, vb⟩) (S := S) (hI1.res 0 rfl rfl) 4 rfl rfl)) ?_
        (refine st rfl ?_; conv => arg 3; whnf)
        refine gw ?_
        refine n_lookup (E := stateE) (ev' := boolV) (b := vb) (zr := .lit false) (z := .bool false) V (keyF S sd A) (.bool ((mget V (keyF S sd A)).getD false)) stateK rfl rfl rfl rfl rfl rfl hkok rfl rfl (by cases mget V (keyF S sd A) <;> rfl) (fun _ w1 _ hI1 => by exact hI1.res 2 rfl rfl) ?_
        (refine st rfl ?_; conv => arg 3; whnf)
        (repeat ((first | refine n_must rfl ?_ | refine n_chk (drawF_ok (by decide +kernel)) ?_ | refine n_same rfl ?_ | ((first | refine n_must ?_ ?_ | refine n_brT ?_ ?_); (focus (first | (simp [hv']; done) | (simp [hv']; omega) | (simp only [hv']; simp; done)))) | (refine n_brF ?_ ?_; (focus (first | (simp [hv']; done) | (simp [hv']; omega) | (simp only [hv']; simp; done)))) | refine n_must (by (with_reducible refine and_shape ?_) <;> kernel_rfl) ?_); (refine st rfl ?_; conv => arg 3; whnf)))
        refine n_ldI (.raw (.slice ho S.n hc)) rfl rfl (fun _ w1 _ hI1 => load_cell aggPasts (sr_cell (p := p) (a := ⟨ho, hc, so, sc, dd, dc, no, nc, vb⟩) (S := S) (hI1.res 0 rfl rfl) 0 rfl rfl)) ?_
        (refine st rfl ?_; conv => arg 3; whnf)
        refine gw ?_
        refine n_loopM (σ := Nat × Vm) (fun t => [(0, .raw (pV p)), (1, .int .i64 (sd : Nat)), (2, .raw (pV pm)), (8, .ptr 3 0), (90, .raw (.slice ho S.n hc)), (91, .int .i64 (S.n : Nat)), (92, .int .i64 (t.1 : Nat))]) (fun t => [⟨77, [.res (srRes p ⟨ho, hc, so, sc, dd, dc, no, nc, vb⟩ S)], false⟩, ⟨108, [.res (mapRes pm mb A)], false⟩, ⟨73, [.res (vmRes vb t.2)], true⟩] ++ [⟨102, (keyL S sd A S.Ns.length).map (SV.int .i64), true⟩]) (fun t => t.1 ≤ S.n ∧ R = tryF (fromF S n) S sd A0 ((List.range S.n).drop t.1) t.2) (fun t => S.n - t.1) (0, V) mixed ⟨by simp, by simpa using hF⟩ (fun _ _ => rfl) (fun w h => h) rfl (by (repeat (first | exact trivial | refine ⟨⟨rfl, rfl⟩, ?_⟩))) (fun s _ => ⟨by (repeat (first | exact trivial | refine ⟨⟨_, rfl⟩, ?_⟩)), by (repeat (first | exact trivial | refine ⟨⟨_, rfl⟩, ?_⟩))⟩) ?_
        exact hB.1
    intro t ht
    obtain ⟨i, V1⟩ := t
    obtain ⟨hi, hR⟩ := ht
    dsimp only at hi hR ⊢
    (refine st rfl ?_; conv => arg 3; whnf)
    by_cases hil : i < S.n
    · have ei : IntKind.i64.wrap ((i : Int) + 1) = ((i + 1 : Nat) : Int) := by rw [w64 (by omega) (by omega)]; simp
      have hs := rowRes_some' (sr_s hS) (show 0 < (S.L.map sortF).length by rw [hn0]; omega)
      have hd := rowRes_some' (sr_d hS) (show 0 < S.H.length by rw [ok.h]; omega)
      have hh := rd_some pa_len (by omega) (sr_h hS) (show 0 < S.L.length by show 0 < S.n; omega)
      dsimp only at hs hd hh
      obtain ⟨gs, rfl⟩ := hs
      obtain ⟨gd, rfl⟩ := hd
      obtain ⟨ad, rfl⟩ := hh
      have hx : S.L[i]? = some S.L[i] := List.getElem?_eq_getElem hil
      have hiH : i < S.H.length := by rw [ok.h]; exact hil
      have hxH : S.H[i]? = some S.H[i] := List.getElem?_eq_getElem hiH
      have hpi : S.p i = S.L[i] := by simp [Srch.p, List.getD, hx]
      have hHi : S.H.getD i 0 = S.H[i] := by simp only [List.getD, hxH]; rfl
      have hq := ok.p S.L[i] (List.getElem_mem hil)
      have hh64 := ok.h64 S.H[i] (List.getElem_mem _)
      have hdrop : (List.range S.n).drop i = i :: (List.range S.n).drop (i + 1) := by rw [List.drop_eq_getElem_cons (by simpa using hil)]; simp
      rw [hdrop, tryF] at hR
      have hbit := bit_shr sd i hst (by omega)
      have hcand : candF S sd i = (!(sd.testBit i || decide (sortF (S.p i) = 0) || (decide (sortF (S.p i) = 1) && !openF (S.p i))) && earlyF S sd i) := rfl
      have hdo : doS S A0 i = doF A0 0 (S.p i).k (S.p i).nm (S.p i).a (S.p i).b (S.H.getD i 0) := rfl
      have hbad : ∀ D, badF S i D = ((decide (sortF (S.p i) = 2) && (decide (D.2.2 ≠ (S.p i).er) || decide (D.2.1 ≠ (S.p i).va))) || (decide (sortF (S.p i) = 1) && decide (D.2.2 ≠ 0))) := fun _ => rfl
      have hearly : earlyF S sd i = (List.range S.n).all fun k => !(!sd.testBit k && decide (sortF (S.p k) = 2) && decide ((S.p k).to < (S.p i).fr)) := rfl
      rw [hpi] at hcand hdo hearly
      simp only [hpi] at hbad
      rw [hHi] at hdo
      have hsq : (ints (S.L.map sortF))[i]? = some (.int .i64 (sortF S.L[i])) := by simp [hx]
      have hdq : (ints S.H)[i]? = some (.int .i64 S.H[i]) := by simp [hxH]
      clear hpi hHi
      generalize S.L[i] = q at *
      generalize S.H[i] = hv2 at *
      refine gw ?_
      (first | (refine n_ldI (.agg q.sv) rfl rfl (fun _ w1 _ hI1 => pa_row (sr_h (hI1.res 0 rfl rfl)) hx rfl) ?_; (refine st rfl ?_; conv => arg 3; whnf)) | (refine n_ldDI (.agg q.sv) rfl rfl (fun _ w1 _ hI1 => pa_row (sr_h (hI1.res 0 rfl rfl)) hx rfl) ?_; (refine st rfl ?_; conv => arg 3; whnf)) | (refine n_ldRI (.agg q.sv) rfl (fun _ w1 _ hI1 => pa_row (sr_h (hI1.res 0 rfl rfl)) hx rfl) ?_; (refine st rfl ?_; conv => arg 3; whnf)))
      refine gw ?_
      cases hb : sd.testBit i with
      | true =>
        rw [hb, if_pos rfl] at hbit
        rw [hbit]
        refine gw ?_
        have hcf : candF S sd i = false := by rw [hcand, hb]; rfl
        rw [if_pos hcf] at hR
        refine n_againM fun ids' w' hp hI' => ⟨(i + 1, V1), ⟨by dsimp only; omega, hR⟩, by dsimp only; omega, (by (repeat (first | exact trivial | refine ⟨⟨rfl, rfl⟩, ?_⟩ | refine ⟨⟨rfl, congrArg (SV.int .i64) ei⟩, ?_⟩))), ⟨_, hI'⟩⟩
      | false =>
      rw [hb, if_neg (by simp)] at hbit
      rw [hb, Bool.false_or] at hcand
      rw [hbit]
      refine gw ?_
      (first | (refine n_ldI (.raw (.slice (some ⟨gs, 0, none⟩) (S.L.map sortF).length sc)) rfl rfl (fun _ w1 _ hI1 => load_cell aggSorts (sr_cell (p := p) (S := S) (hI1.res 0 rfl rfl) 1 rfl rfl)) ?_; (refine st rfl ?_; conv => arg 3; whnf)) | (refine n_ldDI (.raw (.slice (some ⟨gs, 0, none⟩) (S.L.map sortF).length sc)) rfl rfl (fun _ w1 _ hI1 => load_cell aggSorts (sr_cell (p := p) (S := S) (hI1.res 0 rfl rfl) 1 rfl rfl)) ?_; (refine st rfl ?_; conv => arg 3; whnf)) | (refine n_ldRI (.raw (.slice (some ⟨gs, 0, none⟩) (S.L.map sortF).length sc)) rfl (fun _ w1 _ hI1 => load_cell aggSorts (sr_cell (p := p) (S := S) (hI1.res 0 rfl rfl) 1 rfl rfl)) ?_; (refine st rfl ?_; conv => arg 3; whnf)))
      rw [hn0]
      refine gw ?_
      (first | (refine n_ldI (.int .i64 (sortF q)) rfl rfl (fun _ w1 _ hI1 => load_cell aggSort (rw_cell (sr_s (hI1.res 0 rfl rfl)) rfl (i := i) hsq rfl)) ?_; (refine st rfl ?_; conv => arg 3; whnf)) | (refine n_ldDI (.int .i64 (sortF q)) rfl rfl (fun _ w1 _ hI1 => load_cell aggSort (rw_cell (sr_s (hI1.res 0 rfl rfl)) rfl (i := i) hsq rfl)) ?_; (refine st rfl ?_; conv => arg 3; whnf)) | (refine n_ldRI (.int .i64 (sortF q)) rfl (fun _ w1 _ hI1 => load_cell aggSort (rw_cell (sr_s (hI1.res 0 rfl rfl)) rfl (i := i) hsq rfl)) ?_; (refine st rfl ?_; conv => arg 3; whnf)))
      refine gw ?_
      by_cases s0 : sortF q = 0
      · (repeat ((first | refine n_must rfl ?_ | refine n_chk (drawF_ok (by decide +kernel)) ?_ | refine n_same rfl ?_ | ((first | refine n_must ?_ ?_ | refine n_brT ?_ ?_); (focus (first | (simp [s0]; done) | (simp [s0]; omega) | (simp only [s0]; simp; done)))) | (refine n_brF ?_ ?_; (focus (first | (simp [s0]; done) | (simp [s0]; omega) | (simp only [s0]; simp; done)))) | refine n_must (by (with_reducible refine and_shape ?_) <;> kernel_rfl) ?_); (refine st rfl ?_; conv => arg 3; whnf)))
        have hcf : candF S sd i = false := by rw [hcand, decide_eq_true s0]; rfl
        rw [if_pos hcf] at hR
        refine n_againM fun ids' w' hp hI' => ⟨(i + 1, V1), ⟨by dsimp only; omega, hR⟩, by dsimp only; omega, (by (repeat (first | exact trivial | refine ⟨⟨rfl, rfl⟩, ?_⟩ | refine ⟨⟨rfl, congrArg (SV.int .i64) ei⟩, ?_⟩))), ⟨_, hI'⟩⟩
      (repeat ((first | refine n_must rfl ?_ | refine n_chk (drawF_ok (by decide +kernel)) ?_ | refine n_same rfl ?_ | ((first | refine n_must ?_ ?_ | refine n_brT ?_ ?_); (focus (first | (simp [s0]; done) | (simp [s0]; omega) | (simp only [s0]; simp; done)))) | (refine n_brF ?_ ?_; (focus (first | (simp [s0]; done) | (simp [s0]; omega) | (simp only [s0]; simp; done)))) | refine n_must (by (with_reducible refine and_shape ?_) <;> kernel_rfl) ?_); (refine st rfl ?_; conv => arg 3; whnf)))
      (first | (refine n_ldI (.raw (.slice (some ⟨gs, 0, none⟩) (S.L.map sortF).length sc)) rfl rfl (fun _ w1 _ hI1 => load_cell aggSorts (sr_cell (p := p) (S := S) (hI1.res 0 rfl rfl) 1 rfl rfl)) ?_; (refine st rfl ?_; conv => arg 3; whnf)) | (refine n_ldDI (.raw (.slice (some ⟨gs, 0, none⟩) (S.L.map sortF).length sc)) rfl rfl (fun _ w1 _ hI1 => load_cell aggSorts (sr_cell (p := p) (S := S) (hI1.res 0 rfl rfl) 1 rfl rfl)) ?_; (refine st rfl ?_; conv => arg 3; whnf)) | (refine n_ldRI (.raw (.slice (some ⟨gs, 0, none⟩) (S.L.map sortF).length sc)) rfl (fun _ w1 _ hI1 => load_cell aggSorts (sr_cell (p := p) (S := S) (hI1.res 0 rfl rfl) 1 rfl rfl)) ?_; (refine st rfl ?_; conv => arg 3; whnf)))
      rw [hn0]
      refine gw ?_
      (first | (refine n_ldI (.int .i64 (sortF q)) rfl rfl (fun _ w1 _ hI1 => load_cell aggSort (rw_cell (sr_s (hI1.res 0 rfl rfl)) rfl (i := i) hsq rfl)) ?_; (refine st rfl ?_; conv => arg 3; whnf)) | (refine n_ldDI (.int .i64 (sortF q)) rfl rfl (fun _ w1 _ hI1 => load_cell aggSort (rw_cell (sr_s (hI1.res 0 rfl rfl)) rfl (i := i) hsq rfl)) ?_; (refine st rfl ?_; conv => arg 3; whnf)) | (refine n_ldRI (.int .i64 (sortF q)) rfl (fun _ w1 _ hI1 => load_cell aggSort (rw_cell (sr_s (hI1.res 0 rfl rfl)) rfl (i := i) hsq rfl)) ?_; (refine st rfl ?_; conv => arg 3; whnf)))
      refine gw ?_
      by_cases hc3 : (!(decide (sortF q = 0) || (decide (sortF q = 1) && !openF q))) = true
      · apply later1
        · intro hB
          by_cases s1 : sortF q = 1
          · (repeat ((first | refine n_must rfl ?_ | refine n_chk (drawF_ok (by decide +kernel)) ?_ | refine n_same rfl ?_ | ((first | refine n_must ?_ ?_ | refine n_brT ?_ ?_); (focus (first | (simp [s1]; done) | (simp [s1]; omega) | (simp only [s1]; simp; done)))) | (refine n_brF ?_ ?_; (focus (first | (simp [s1]; done) | (simp [s1]; omega) | (simp only [s1]; simp; done)))) | refine n_must (by (with_reducible refine and_shape ?_) <;> kernel_rfl) ?_); (refine st rfl ?_; conv => arg 3; whnf)))
            refine n_sameP (.bool (openF q)) rfl rfl rfl (fun _ w1 hp1 hI1 => cOpen_ok q w1) ?_; (refine st rfl ?_; conv => arg 3; whnf)
            cases hop : openF q with
            | true =>
              (repeat ((first | refine n_must rfl ?_ | refine n_chk (drawF_ok (by decide +kernel)) ?_ | refine n_same rfl ?_ | ((first | refine n_must ?_ ?_ | refine n_brT ?_ ?_); (focus (first | (simp [hop]; done) | (simp [hop]; omega) | (simp only [hop]; simp; done)))) | (refine n_brF ?_ ?_; (focus (first | (simp [hop]; done) | (simp [hop]; omega) | (simp only [hop]; simp; done)))) | refine n_must (by (with_reducible refine and_shape ?_) <;> kernel_rfl) ?_); (refine st rfl ?_; conv => arg 3; whnf)))
              (first | (refine n_ldI (.raw (.slice (some ad) S.n hc)) rfl rfl (fun _ w1 _ hI1 => load_cell aggPasts (sr_cell (p := p) (S := S) (hI1.res 0 rfl rfl) 0 rfl rfl)) ?_; (refine st rfl ?_; conv => arg 3; whnf)) | (refine n_ldDI (.raw (.slice (some ad) S.n hc)) rfl rfl (fun _ w1 _ hI1 => load_cell aggPasts (sr_cell (p := p) (S := S) (hI1.res 0 rfl rfl) 0 rfl rfl)) ?_; (refine st rfl ?_; conv => arg 3; whnf)) | (refine n_ldRI (.raw (.slice (some ad) S.n hc)) rfl (fun _ w1 _ hI1 => load_cell aggPasts (sr_cell (p := p) (S := S) (hI1.res 0 rfl rfl) 0 rfl rfl)) ?_; (refine st rfl ?_; conv => arg 3; whnf)))
              refine gw ?_
              refine n_loop1 rfl fun b4 => ?_
              refine n_loop (σ := Nat) (fun k => [(0, .raw (pV p)), (1, .int .i64 (sd : Nat)), (2, .raw (pV pm)), (8, .ptr 3 0), (14, .int .i64 (i : Nat)), (15, .ptr 4 0), (90, .raw (.slice (some ad) S.n hc)), (91, .int .i64 (S.n : Nat)), (92, .int .i64 (i : Nat)), (130, .raw (.slice (some ad) S.n hc)), (131, .int .i64 (S.n : Nat)), (132, .int .i64 (k : Nat))]) (fun _ => [⟨77, [.res (srRes p ⟨some ad, hc, some ⟨gs, 0, none⟩, sc, some ⟨gd, 0, none⟩, dc, no, nc, vb⟩ S)], false⟩, ⟨108, [.res (mapRes pm mb A)], false⟩, ⟨73, [.res (vmRes vb V1)], true⟩] ++ [⟨102, (keyL S sd A S.Ns.length).map (SV.int .i64), true⟩, ⟨55, q.sv, true⟩]) (fun k => k ≤ S.n ∧ ∀ j, j < k → (!(!sd.testBit j && decide (sortF (S.p j) = 2) && decide ((S.p j).to < q.fr))) = true) (fun k => S.n - k) 0 mixed ⟨by omega, by intro j h; omega⟩ (fun _ _ => rfl) rfl (by (repeat (first | exact trivial | refine ⟨⟨rfl, rfl⟩, ?_⟩))) (fun s _ => ⟨by (repeat (first | exact trivial | refine ⟨⟨_, rfl⟩, ?_⟩)), by (repeat (first | exact trivial | refine ⟨⟨_, rfl⟩, ?_⟩))⟩) ?_
              exact hB.1 b4
            | false => rw [decide_eq_true s1, hop] at hc3; simp at hc3
          · (repeat ((first | refine n_must rfl ?_ | refine n_chk (drawF_ok (by decide +kernel)) ?_ | refine n_same rfl ?_ | ((first | refine n_must ?_ ?_ | refine n_brT ?_ ?_); (focus (first | (simp [s1]; done) | (simp [s1]; omega) | (simp only [s1]; simp; done)))) | (refine n_brF ?_ ?_; (focus (first | (simp [s1]; done) | (simp [s1]; omega) | (simp only [s1]; simp; done)))) | refine n_must (by (with_reducible refine and_shape ?_) <;> kernel_rfl) ?_); (refine st rfl ?_; conv => arg 3; whnf)))
            (first | (refine n_ldI (.raw (.slice (some ad) S.n hc)) rfl rfl (fun _ w1 _ hI1 => load_cell aggPasts (sr_cell (p := p) (S := S) (hI1.res 0 rfl rfl) 0 rfl rfl)) ?_; (refine st rfl ?_; conv => arg 3; whnf)) | (refine n_ldDI (.raw (.slice (some ad) S.n hc)) rfl rfl (fun _ w1 _ hI1 => load_cell aggPasts (sr_cell (p := p) (S := S) (hI1.res 0 rfl rfl) 0 rfl rfl)) ?_; (refine st rfl ?_; conv => arg 3; whnf)) | (refine n_ldRI (.raw (.slice (some ad) S.n hc)) rfl (fun _ w1 _ hI1 => load_cell aggPasts (sr_cell (p := p) (S := S) (hI1.res 0 rfl rfl) 0 rfl rfl)) ?_; (refine st rfl ?_; conv => arg 3; whnf)))
            refine gw ?_
            refine n_loop1 rfl fun b4 => ?_
            refine n_loop (σ := Nat) (fun k => [(0, .raw (pV p)), (1, .int .i64 (sd : Nat)), (2, .raw (pV pm)), (8, .ptr 3 0), (14, .int .i64 (i : Nat)), (15, .ptr 4 0), (90, .raw (.slice (some ad) S.n hc)), (91, .int .i64 (S.n : Nat)), (92, .int .i64 (i : Nat)), (130, .raw (.slice (some ad) S.n hc)), (131, .int .i64 (S.n : Nat)), (132, .int .i64 (k : Nat))]) (fun _ => [⟨77, [.res (srRes p ⟨some ad, hc, some ⟨gs, 0, none⟩, sc, some ⟨gd, 0, none⟩, dc, no, nc, vb⟩ S)], false⟩, ⟨108, [.res (mapRes pm mb A)], false⟩, ⟨73, [.res (vmRes vb V1)], true⟩] ++ [⟨102, (keyL S sd A S.Ns.length).map (SV.int .i64), true⟩, ⟨55, q.sv, true⟩]) (fun k => k ≤ S.n ∧ ∀ j, j < k → (!(!sd.testBit j && decide (sortF (S.p j) = 2) && decide ((S.p j).to < q.fr))) = true) (fun k => S.n - k) 0 mixed ⟨by omega, by intro j h; omega⟩ (fun _ _ => rfl) rfl (by (repeat (first | exact trivial | refine ⟨⟨rfl, rfl⟩, ?_⟩))) (fun s _ => ⟨by (repeat (first | exact trivial | refine ⟨⟨_, rfl⟩, ?_⟩)), by (repeat (first | exact trivial | refine ⟨⟨_, rfl⟩, ?_⟩))⟩) ?_
            exact hB.1 b4
        intro b4 k hk2
        obtain ⟨hk2, hE⟩ := hk2
        (refine st rfl ?_; conv => arg 3; whnf)
        by_cases hkl2 : k < S.n
        · have ek : IntKind.i64.wrap ((k : Int) + 1) = ((k + 1 : Nat) : Int) := by rw [w64 (by omega) (by omega)]; simp
          have hx2 : S.L[k]? = some S.L[k] := List.getElem?_eq_getElem hkl2
          have hpk : S.p k = S.L[k] := by simp [Srch.p, List.getD, hx2]
          have hsq2 : (ints (S.L.map sortF))[k]? = some (.int .i64 (sortF S.L[k])) := by simp [hx2]
          have hbk := bit_shr sd k hst (by omega)
          generalize S.L[k] = q2 at hx2 hpk hsq2
          refine gw ?_
          (first | (refine n_ldI (.agg q2.sv) rfl rfl (fun _ w1 _ hI1 => pa_row (sr_h (hI1.res 0 rfl rfl)) hx2 rfl) ?_; (refine st rfl ?_; conv => arg 3; whnf)) | (refine n_ldDI (.agg q2.sv) rfl rfl (fun _ w1 _ hI1 => pa_row (sr_h (hI1.res 0 rfl rfl)) hx2 rfl) ?_; (refine st rfl ?_; conv => arg 3; whnf)) | (refine n_ldRI (.agg q2.sv) rfl (fun _ w1 _ hI1 => pa_row (sr_h (hI1.res 0 rfl rfl)) hx2 rfl) ?_; (refine st rfl ?_; conv => arg 3; whnf)))
          refine gw ?_
          cases hb2 : sd.testBit k with
          | true =>
            rw [hb2, if_pos rfl] at hbk
            rw [hbk]
            refine gw ?_
            refine n_again ⟨k + 1, ⟨by omega, fun j hj => ?_⟩, by omega, (by (repeat (first | exact trivial | refine ⟨⟨rfl, rfl⟩, ?_⟩ | refine ⟨⟨rfl, congrArg (SV.int .i64) ek⟩, ?_⟩))), ⟨_, rfl⟩⟩
            by_cases ej : j = k
            · subst ej; exact by rw [hb2]; rfl
            · exact hE j (by omega)
          | false =>
            rw [hb2, if_neg (by simp)] at hbk
            rw [hbk]
            refine gw ?_
            (first | (refine n_ldI (.raw (.slice (some ⟨gs, 0, none⟩) (S.L.map sortF).length sc)) rfl rfl (fun _ w1 _ hI1 => load_cell aggSorts (sr_cell (p := p) (S := S) (hI1.res 0 rfl rfl) 1 rfl rfl)) ?_; (refine st rfl ?_; conv => arg 3; whnf)) | (refine n_ldDI (.raw (.slice (some ⟨gs, 0, none⟩) (S.L.map sortF).length sc)) rfl rfl (fun _ w1 _ hI1 => load_cell aggSorts (sr_cell (p := p) (S := S) (hI1.res 0 rfl rfl) 1 rfl rfl)) ?_; (refine st rfl ?_; conv => arg 3; whnf)) | (refine n_ldRI (.raw (.slice (some ⟨gs, 0, none⟩) (S.L.map sortF).length sc)) rfl (fun _ w1 _ hI1 => load_cell aggSorts (sr_cell (p := p) (S := S) (hI1.res 0 rfl rfl) 1 rfl rfl)) ?_; (refine st rfl ?_; conv => arg 3; whnf)))
            rw [hn0]
            refine gw ?_
            (first | (refine n_ldI (.int .i64 (sortF q2)) rfl rfl (fun _ w1 _ hI1 => load_cell aggSort (rw_cell (sr_s (hI1.res 0 rfl rfl)) rfl (i := k) hsq2 rfl)) ?_; (refine st rfl ?_; conv => arg 3; whnf)) | (refine n_ldDI (.int .i64 (sortF q2)) rfl rfl (fun _ w1 _ hI1 => load_cell aggSort (rw_cell (sr_s (hI1.res 0 rfl rfl)) rfl (i := k) hsq2 rfl)) ?_; (refine st rfl ?_; conv => arg 3; whnf)) | (refine n_ldRI (.int .i64 (sortF q2)) rfl (fun _ w1 _ hI1 => load_cell aggSort (rw_cell (sr_s (hI1.res 0 rfl rfl)) rfl (i := k) hsq2 rfl)) ?_; (refine st rfl ?_; conv => arg 3; whnf)))
            by_cases s2 : sortF q2 = 2
            · by_cases hto : q2.to < q.fr
              · (repeat ((first | refine n_must rfl ?_ | refine n_chk (drawF_ok (by decide +kernel)) ?_ | refine n_same rfl ?_ | ((first | refine n_must ?_ ?_ | refine n_brT ?_ ?_); (focus (first | (simp [s2, hto]; done) | (simp [s2, hto]; omega) | (simp only [s2, hto]; simp; done)))) | (refine n_brF ?_ ?_; (focus (first | (simp [s2, hto]; done) | (simp [s2, hto]; omega) | (simp only [s2, hto]; simp; done)))) | refine n_must (by (with_reducible refine and_shape ?_) <;> kernel_rfl) ?_); (refine st rfl ?_; conv => arg 3; whnf)))
                refine n_exit rfl ?_
                (refine st rfl ?_; conv => arg 3; whnf)
                refine gw ?_
                have hcf : candF S sd i = false := by rw [hcand, hearly, List.all_eq_false.2 ⟨k, List.mem_range.2 hkl2, by rw [hpk, hb2, decide_eq_true s2, decide_eq_true hto]; simp⟩, Bool.and_false]
                rw [if_pos hcf] at hR
                refine n_againM fun ids' w' hp hI' => ⟨(i + 1, V1), ⟨by dsimp only; omega, hR⟩, by dsimp only; omega, (by (repeat (first | exact trivial | refine ⟨⟨rfl, rfl⟩, ?_⟩ | refine ⟨⟨rfl, congrArg (SV.int .i64) ei⟩, ?_⟩))), ⟨_, hI'⟩⟩
              · (repeat ((first | refine n_must rfl ?_ | refine n_chk (drawF_ok (by decide +kernel)) ?_ | refine n_same rfl ?_ | ((first | refine n_must ?_ ?_ | refine n_brT ?_ ?_); (focus (first | (simp [s2, hto]; done) | (simp [s2, hto]; omega) | (simp only [s2, hto]; simp; done)))) | (refine n_brF ?_ ?_; (focus (first | (simp [s2, hto]; done) | (simp [s2, hto]; omega) | (simp only [s2, hto]; simp; done)))) | refine n_must (by (with_reducible refine and_shape ?_) <;> kernel_rfl) ?_); (refine st rfl ?_; conv => arg 3; whnf)))
                refine n_again ⟨k + 1, ⟨by omega, fun j hj => ?_⟩, by omega, (by (repeat (first | exact trivial | refine ⟨⟨rfl, rfl⟩, ?_⟩ | refine ⟨⟨rfl, congrArg (SV.int .i64) ek⟩, ?_⟩))), ⟨_, rfl⟩⟩
                by_cases ej : j = k
                · subst ej; exact by rw [hpk, decide_eq_false hto]; simp
                · exact hE j (by omega)
            · (repeat ((first | refine n_must rfl ?_ | refine n_chk (drawF_ok (by decide +kernel)) ?_ | refine n_same rfl ?_ | ((first | refine n_must ?_ ?_ | refine n_brT ?_ ?_); (focus (first | (simp [s2]; done) | (simp [s2]; omega) | (simp only [s2]; simp; done)))) | (refine n_brF ?_ ?_; (focus (first | (simp [s2]; done) | (simp [s2]; omega) | (simp only [s2]; simp; done)))) | refine n_must (by (with_reducible refine and_shape ?_) <;> kernel_rfl) ?_); (refine st rfl ?_; conv => arg 3; whnf)))
              refine n_again ⟨k + 1, ⟨by omega, fun j hj => ?_⟩, by omega, (by (repeat (first | exact trivial | refine ⟨⟨rfl, rfl⟩, ?_⟩ | refine ⟨⟨rfl, congrArg (SV.int .i64) ek⟩, ?_⟩))), ⟨_, rfl⟩⟩
              by_cases ej : j = k
              · subst ej; exact by rw [hpk, decide_eq_false s2]; simp
              · exact hE j (by omega)
        · obtain rfl : k = S.n := by omega
          have hee : earlyF S sd i = true := by rw [hearly, List.all_eq_true]; exact fun j hj => hE j (List.mem_range.1 hj)
          rw [hee, Bool.and_true] at hcand
          have hct : candF S sd i = true := by rw [hcand]; exact hc3
          rw [if_neg (by rw [hct]; simp)] at hR
          refine gw ?_
          refine n_exit rfl ?_
          (refine st rfl ?_; conv => arg 3; whnf)
          refine gw ?_
          refine n_callN (fun y : Nat × Nat × All => mapRes y.1 y.2.1 y.2.2) 108 (fun y => .raw (pV y.1)) (fun y => pV y.1) (fun y => Same A y.2.2 ∧ (y.2.2.map (·.1)).Nodup) rfl rfl rfl (fun _ => rfl) (fun w1 hI1 => (Copy_ok (hI1.res 1 rfl rfl)).mono fun e w' ⟨y, he, hs, hf⟩ => ⟨y, he, ⟨hs, hf.2.1.2.1.nodup⟩, hf⟩) ?_
          rintro ⟨pn, mbn, T⟩ ⟨hsT, hndT⟩ hnewT
          dsimp only at hsT hndT
          have okT := aok.like hsT hndT
          (refine st rfl ?_; conv => arg 3; whnf)
          refine gw ?_
          (first | (refine n_ldI (.raw (.slice (some ⟨gd, 0, none⟩) S.H.length dc)) rfl rfl (fun _ w1 _ hI1 => load_cell aggInts (sr_cell (p := p) (S := S) (hI1.res 0 rfl rfl) 2 rfl rfl)) ?_; (refine st rfl ?_; conv => arg 3; whnf)) | (refine n_ldDI (.raw (.slice (some ⟨gd, 0, none⟩) S.H.length dc)) rfl rfl (fun _ w1 _ hI1 => load_cell aggInts (sr_cell (p := p) (S := S) (hI1.res 0 rfl rfl) 2 rfl rfl)) ?_; (refine st rfl ?_; conv => arg 3; whnf)) | (refine n_ldRI (.raw (.slice (some ⟨gd, 0, none⟩) S.H.length dc)) rfl (fun _ w1 _ hI1 => load_cell aggInts (sr_cell (p := p) (S := S) (hI1.res 0 rfl rfl) 2 rfl rfl)) ?_; (refine st rfl ?_; conv => arg 3; whnf)))
          rw [ok.h]
          refine gw ?_
          (first | (refine n_ldI (.int .i64 hv2) rfl rfl (fun _ w1 _ hI1 => load_cell aggInt (rw_cell (sr_d (hI1.res 0 rfl rfl)) rfl (i := i) hdq rfl)) ?_; (refine st rfl ?_; conv => arg 3; whnf)) | (refine n_ldDI (.int .i64 hv2) rfl rfl (fun _ w1 _ hI1 => load_cell aggInt (rw_cell (sr_d (hI1.res 0 rfl rfl)) rfl (i := i) hdq rfl)) ?_; (refine st rfl ?_; conv => arg 3; whnf)) | (refine n_ldRI (.int .i64 hv2) rfl (fun _ w1 _ hI1 => load_cell aggInt (rw_cell (sr_d (hI1.res 0 rfl rfl)) rfl (i := i) hdq rfl)) ?_; (refine st rfl ?_; conv => arg 3; whnf)))
          refine gw ?_
          refine n_callR (Y := Nat) 5 (fun hn => mapRes pn mbn (doF T hn q.k q.nm q.a q.b hv2).1) (fun hn => ansS (doF T hn q.k q.nm q.a q.b hv2).2.1 (doF T hn q.k q.nm q.a q.b hv2).2.2) (fun hn => ansV (doF T hn q.k q.nm q.a q.b hv2).2.1 (doF T hn q.k q.nm q.a q.b hv2).2.2) (fun _ => True) rfl rfl (fun _ => rfl) rfl rfl rfl (fun _ w1 hp1 hI1 hR => Do_ok hR okT q.k q.nm q.a q.b hv2 hq.1 hq.2 hh64) ?_
          intro hn _
          obtain ⟨d1, d2⟩ := doF_like (hsame.trans hsT) 0 hn q.k q.nm q.a q.b hv2
          have dok := doF_ok okT hn q.k q.nm q.a q.b hv2
          rw [d1]
          have hbD := hbad (doS S A0 i)
          rw [hdo] at hbD hR
          generalize doF T hn q.k q.nm q.a q.b hv2 = D2 at d1 d2 dok
          generalize doF A0 0 q.k q.nm q.a q.b hv2 = D at d1 d2 hR hbD
          (refine st rfl ?_; conv => arg 3; whnf)
          repeat (first | (first | (refine n_ldI (.raw (.slice (some ⟨gd, 0, none⟩) S.H.length dc)) rfl rfl (fun _ w1 _ hI1 => load_cell aggInts (sr_cell (p := p) (S := S) (hI1.res 0 rfl rfl) 2 rfl rfl)) ?_; (refine st rfl ?_; conv => arg 3; whnf)) | (refine n_ldDI (.raw (.slice (some ⟨gd, 0, none⟩) S.H.length dc)) rfl rfl (fun _ w1 _ hI1 => load_cell aggInts (sr_cell (p := p) (S := S) (hI1.res 0 rfl rfl) 2 rfl rfl)) ?_; (refine st rfl ?_; conv => arg 3; whnf)) | (refine n_ldRI (.raw (.slice (some ⟨gd, 0, none⟩) S.H.length dc)) rfl (fun _ w1 _ hI1 => load_cell aggInts (sr_cell (p := p) (S := S) (hI1.res 0 rfl rfl) 2 rfl rfl)) ?_; (refine st rfl ?_; conv => arg 3; whnf))) | (first | (refine n_ldI (.int .i64 hv2) rfl rfl (fun _ w1 _ hI1 => load_cell aggInt (rw_cell (sr_d (hI1.res 0 rfl rfl)) rfl (i := i) hdq rfl)) ?_; (refine st rfl ?_; conv => arg 3; whnf)) | (refine n_ldDI (.int .i64 hv2) rfl rfl (fun _ w1 _ hI1 => load_cell aggInt (rw_cell (sr_d (hI1.res 0 rfl rfl)) rfl (i := i) hdq rfl)) ?_; (refine st rfl ?_; conv => arg 3; whnf)) | (refine n_ldRI (.int .i64 hv2) rfl (fun _ w1 _ hI1 => load_cell aggInt (rw_cell (sr_d (hI1.res 0 rfl rfl)) rfl (i := i) hdq rfl)) ?_; (refine st rfl ?_; conv => arg 3; whnf))))
          refine gw ?_
          (first | (refine n_ldI (.raw (.slice (some ⟨gs, 0, none⟩) (S.L.map sortF).length sc)) rfl rfl (fun _ w1 _ hI1 => load_cell aggSorts (sr_cell (p := p) (S := S) (hI1.res 0 rfl rfl) 1 rfl rfl)) ?_; (refine st rfl ?_; conv => arg 3; whnf)) | (refine n_ldDI (.raw (.slice (some ⟨gs, 0, none⟩) (S.L.map sortF).length sc)) rfl rfl (fun _ w1 _ hI1 => load_cell aggSorts (sr_cell (p := p) (S := S) (hI1.res 0 rfl rfl) 1 rfl rfl)) ?_; (refine st rfl ?_; conv => arg 3; whnf)) | (refine n_ldRI (.raw (.slice (some ⟨gs, 0, none⟩) (S.L.map sortF).length sc)) rfl (fun _ w1 _ hI1 => load_cell aggSorts (sr_cell (p := p) (S := S) (hI1.res 0 rfl rfl) 1 rfl rfl)) ?_; (refine st rfl ?_; conv => arg 3; whnf)))
          rw [hn0]
          refine gw ?_
          (first | (refine n_ldI (.int .i64 (sortF q)) rfl rfl (fun _ w1 _ hI1 => load_cell aggSort (rw_cell (sr_s (hI1.res 0 rfl rfl)) rfl (i := i) hsq rfl)) ?_; (refine st rfl ?_; conv => arg 3; whnf)) | (refine n_ldDI (.int .i64 (sortF q)) rfl rfl (fun _ w1 _ hI1 => load_cell aggSort (rw_cell (sr_s (hI1.res 0 rfl rfl)) rfl (i := i) hsq rfl)) ?_; (refine st rfl ?_; conv => arg 3; whnf)) | (refine n_ldRI (.int .i64 (sortF q)) rfl (fun _ w1 _ hI1 => load_cell aggSort (rw_cell (sr_s (hI1.res 0 rfl rfl)) rfl (i := i) hsq rfl)) ?_; (refine st rfl ?_; conv => arg 3; whnf)))
          refine gw ?_
          by_cases s2 : sortF q = 2
          · (repeat ((first | refine n_must rfl ?_ | refine n_chk (drawF_ok (by decide +kernel)) ?_ | refine n_same rfl ?_ | ((first | refine n_must ?_ ?_ | refine n_brT ?_ ?_); (focus (first | (simp [s2]; done) | (simp [s2]; omega) | (simp only [s2]; simp; done)))) | (refine n_brF ?_ ?_; (focus (first | (simp [s2]; done) | (simp [s2]; omega) | (simp only [s2]; simp; done)))) | refine n_must (by (with_reducible refine and_shape ?_) <;> kernel_rfl) ?_); (refine st rfl ?_; conv => arg 3; whnf)))
            by_cases e1 : D.2.2 = q.er
            · by_cases e2 : D.2.1 = q.va
              · have hbf : badF S i D = false := by rw [hbD]; simp [s2, e1, e2]
                (repeat ((first | refine n_must rfl ?_ | refine n_chk (drawF_ok (by decide +kernel)) ?_ | refine n_same rfl ?_ | ((first | refine n_must ?_ ?_ | refine n_brT ?_ ?_); (focus (first | (simp [e1, e2]; done) | (simp [e1, e2]; omega) | (simp only [e1, e2]; simp; done)))) | (refine n_brF ?_ ?_; (focus (first | (simp [e1, e2]; done) | (simp [e1, e2]; omega) | (simp only [e1, e2]; simp; done)))) | refine n_must (by (with_reducible refine and_shape ?_) <;> kernel_rfl) ?_); (refine st rfl ?_; conv => arg 3; whnf)))
                (first | (refine n_ldI (.raw (.slice (some ⟨gs, 0, none⟩) (S.L.map sortF).length sc)) rfl rfl (fun _ w1 _ hI1 => load_cell aggSorts (sr_cell (p := p) (S := S) (hI1.res 0 rfl rfl) 1 rfl rfl)) ?_; (refine st rfl ?_; conv => arg 3; whnf)) | (refine n_ldDI (.raw (.slice (some ⟨gs, 0, none⟩) (S.L.map sortF).length sc)) rfl rfl (fun _ w1 _ hI1 => load_cell aggSorts (sr_cell (p := p) (S := S) (hI1.res 0 rfl rfl) 1 rfl rfl)) ?_; (refine st rfl ?_; conv => arg 3; whnf)) | (refine n_ldRI (.raw (.slice (some ⟨gs, 0, none⟩) (S.L.map sortF).length sc)) rfl (fun _ w1 _ hI1 => load_cell aggSorts (sr_cell (p := p) (S := S) (hI1.res 0 rfl rfl) 1 rfl rfl)) ?_; (refine st rfl ?_; conv => arg 3; whnf)))
                rw [hn0]
                (repeat ((first | refine n_must rfl ?_ | refine n_chk (drawF_ok (by decide +kernel)) ?_ | refine n_same rfl ?_ | ((first | refine n_must ?_ ?_ | refine n_brT ?_ ?_); (focus (first | (simp [s2]; done) | (simp [s2]; omega) | (simp only [s2]; simp; done)))) | (refine n_brF ?_ ?_; (focus (first | (simp [s2]; done) | (simp [s2]; omega) | (simp only [s2]; simp; done)))) | refine n_must (by (with_reducible refine and_shape ?_) <;> kernel_rfl) ?_); (refine st rfl ?_; conv => arg 3; whnf)))
                (first | (refine n_ldI (.int .i64 (sortF q)) rfl rfl (fun _ w1 _ hI1 => load_cell aggSort (rw_cell (sr_s (hI1.res 0 rfl rfl)) rfl (i := i) hsq rfl)) ?_; (refine st rfl ?_; conv => arg 3; whnf)) | (refine n_ldDI (.int .i64 (sortF q)) rfl rfl (fun _ w1 _ hI1 => load_cell aggSort (rw_cell (sr_s (hI1.res 0 rfl rfl)) rfl (i := i) hsq rfl)) ?_; (refine st rfl ?_; conv => arg 3; whnf)) | (refine n_ldRI (.int .i64 (sortF q)) rfl (fun _ w1 _ hI1 => load_cell aggSort (rw_cell (sr_s (hI1.res 0 rfl rfl)) rfl (i := i) hsq rfl)) ?_; (refine st rfl ?_; conv => arg 3; whnf)))
                (repeat ((first | refine n_must rfl ?_ | refine n_chk (drawF_ok (by decide +kernel)) ?_ | refine n_same rfl ?_ | ((first | refine n_must ?_ ?_ | refine n_brT ?_ ?_); (focus (first | (simp [s2]; done) | (simp [s2]; omega) | (simp only [s2]; simp; done)))) | (refine n_brF ?_ ?_; (focus (first | (simp [s2]; done) | (simp [s2]; omega) | (simp only [s2]; simp; done)))) | refine n_must (by (with_reducible refine and_shape ?_) <;> kernel_rfl) ?_); (refine st rfl ?_; conv => arg 3; whnf)))
                rw [if_neg (by rw [hbf]; simp)] at hR
                rw [bit_or sd i hst (by omega)]
                have hun2 := unset_or (S := S) hil hb
                have hor := or_lt hst (show i < 12 by omega)
                have hlen9 := fromF_len S n (sd ||| 2 ^ i) D.1 V1
                generalize hFR : fromF S n (sd ||| 2 ^ i) D.1 V1 = FR at hR hlen9
                refine n_callR (Y := Option Addr × Nat) 2 (ρ := vmRes vb V1) (fun y => (vmRes vb FR.2).both (oRes y (ansL FR))) (fun y => .tup [.raw (.slice y.1 (ansL FR).length y.2), .bool FR.1.isSome]) (fun y => .tuple #[.slice y.1 (ansL FR).length y.2, .bool FR.1.isSome]) (fun _ => True) rfl rfl (fun _ => rfl) rfl rfl rfl (fun _ w1 hp1 hI1 hR1 => by
                  have h := ih (sd ||| 2 ^ i) (by omega) hor (by omega) d2 dok (hI1.res 0 rfl rfl) (hI1.res 5 rfl rfl) hR1 (hI1.resLt 0 rfl rfl) (hI1.resLt 2 rfl rfl) (hI1.res_res 0 5 (by decide) rfl rfl rfl rfl) (hI1.res_res 0 2 (by decide) rfl rfl rfl rfl) (hI1.res_res 5 2 (by decide) rfl rfl rfl rfl)
                  rw [hFR] at h
                  exact h) ?_
                rintro ⟨yo, yc⟩ _
                obtain ⟨F1, V2⟩ := FR
                dsimp only at hR hlen9 ⊢
                (refine st rfl ?_; conv => arg 3; whnf)
                cases F1 with
                | none =>
                  dsimp only at hR
                  refine gw ?_
                  refine n_againM fun ids' w' hp hI' => ⟨(i + 1, V2), ⟨by dsimp only; omega, hR⟩, by dsimp only; omega, (by (repeat (first | exact trivial | refine ⟨⟨rfl, rfl⟩, ?_⟩ | refine ⟨⟨rfl, congrArg (SV.int .i64) ei⟩, ?_⟩))), ⟨_, hI'.fst 2 rfl rfl rfl⟩⟩
                | some l =>
                  dsimp only at hR
                  subst hR
                  have hl9 := hlen9 l rfl
                  have hal : (ansL (some l, V2)).length = l.length := by simp
                  refine gw ?_
                  refine n_build1 rfl rfl elemInt rfl rfl rfl rfl rfl rfl rfl rfl rfl ?_
                  (refine st rfl ?_; conv => arg 3; whnf)
                  refine gw ?_
                  refine n_op1 rfl fun q6 => ?_
                  refine n_opF (P := yo = none → (ansL (some l, V2)).length = 0) (fun _ w1 _ hI1 => fun h0 => by
                    have h1 := (hI1.res 2 rfl rfl).2.1
                    rcases Nat.eq_zero_or_pos (ansL (some l, V2)).length with h2 | h2
                    · exact h2
                    · obtain ⟨g, hg⟩ := rowRes_some' h1 h2
                      rw [h0] at hg; cases hg) fun hnil => ?_
                  refine n_appendS (n := 1) (m := (ansL (some l, V2)).length) (q := q6) (j := 6) (nv := ints (ansL (some l, V2))) (xs := [.int .i64 (i : Int)]) (xs' := ints (ansL (some (i :: l), V2))) rfl rfl elemInt hiti hpi9.1 hpi9.2.1 hpi9.2.2 rfl (by omega) rfl rfl rfl rfl rfl rfl rfl rfl rfl (by simp) (fun _ w1 _ hI1 => rd_of_row (hI1.res 2 rfl rfl).2.1) hnil (by intro u hu; obtain ⟨v, _, rfl⟩ := List.mem_map.1 hu; rfl) (by omega) (by omega) (by omega) (by simp) ?_
                  intro g6 c6
                  rw [show 1 + (ansL (some l, V2)).length = (ansL (some (i :: l), V2)).length by simp; omega]
                  (refine st rfl ?_; conv => arg 3; whnf)
                  refine gw ?_
                  refine n_leaveM ?_
                  exact n_ret0 rfl rfl fun ids' w' hp hI' => ⟨(some ⟨g6, 0, none⟩, c6), rfl, trivial, both_post hI' rfl 2 6 (by decide) rfl rfl⟩
              · (repeat ((first | refine n_must rfl ?_ | refine n_chk (drawF_ok (by decide +kernel)) ?_ | refine n_same rfl ?_ | ((first | refine n_must ?_ ?_ | refine n_brT ?_ ?_); (focus (first | (simp [e1, e2]; done) | (simp [e1, e2]; omega) | (simp only [e1, e2]; simp; done)))) | (refine n_brF ?_ ?_; (focus (first | (simp [e1, e2]; done) | (simp [e1, e2]; omega) | (simp only [e1, e2]; simp; done)))) | refine n_must (by (with_reducible refine and_shape ?_) <;> kernel_rfl) ?_); (refine st rfl ?_; conv => arg 3; whnf)))
                have hbt : badF S i D = true := by rw [hbD]; simp [s2, e2]
                rw [if_pos hbt] at hR
                refine n_againM fun ids' w' hp hI' => ⟨(i + 1, V1), ⟨by dsimp only; omega, hR⟩, by dsimp only; omega, (by (repeat (first | exact trivial | refine ⟨⟨rfl, rfl⟩, ?_⟩ | refine ⟨⟨rfl, congrArg (SV.int .i64) ei⟩, ?_⟩))), ⟨_, hI'⟩⟩
            · (repeat ((first | refine n_must rfl ?_ | refine n_chk (drawF_ok (by decide +kernel)) ?_ | refine n_same rfl ?_ | ((first | refine n_must ?_ ?_ | refine n_brT ?_ ?_); (focus (first | (simp [e1]; done) | (simp [e1]; omega) | (simp only [e1]; simp; done)))) | (refine n_brF ?_ ?_; (focus (first | (simp [e1]; done) | (simp [e1]; omega) | (simp only [e1]; simp; done)))) | refine n_must (by (with_reducible refine and_shape ?_) <;> kernel_rfl) ?_); (refine st rfl ?_; conv => arg 3; whnf)))
              have hbt : badF S i D = true := by rw [hbD]; simp [s2, e1]
              rw [if_pos hbt] at hR
              refine n_againM fun ids' w' hp hI' => ⟨(i + 1, V1), ⟨by dsimp only; omega, hR⟩, by dsimp only; omega, (by (repeat (first | exact trivial | refine ⟨⟨rfl, rfl⟩, ?_⟩ | refine ⟨⟨rfl, congrArg (SV.int .i64) ei⟩, ?_⟩))), ⟨_, hI'⟩⟩
          · have s1 : sortF q = 1 := ((sort3 q).resolve_left s0).resolve_right s2
            (repeat ((first | refine n_must rfl ?_ | refine n_chk (drawF_ok (by decide +kernel)) ?_ | refine n_same rfl ?_ | ((first | refine n_must ?_ ?_ | refine n_brT ?_ ?_); (focus (first | (simp [s2]; done) | (simp [s2]; omega) | (simp only [s2]; simp; done)))) | (refine n_brF ?_ ?_; (focus (first | (simp [s2]; done) | (simp [s2]; omega) | (simp only [s2]; simp; done)))) | refine n_must (by (with_reducible refine and_shape ?_) <;> kernel_rfl) ?_); (refine st rfl ?_; conv => arg 3; whnf)))
            (first | (refine n_ldI (.raw (.slice (some ⟨gs, 0, none⟩) (S.L.map sortF).length sc)) rfl rfl (fun _ w1 _ hI1 => load_cell aggSorts (sr_cell (p := p) (S := S) (hI1.res 0 rfl rfl) 1 rfl rfl)) ?_; (refine st rfl ?_; conv => arg 3; whnf)) | (refine n_ldDI (.raw (.slice (some ⟨gs, 0, none⟩) (S.L.map sortF).length sc)) rfl rfl (fun _ w1 _ hI1 => load_cell aggSorts (sr_cell (p := p) (S := S) (hI1.res 0 rfl rfl) 1 rfl rfl)) ?_; (refine st rfl ?_; conv => arg 3; whnf)) | (refine n_ldRI (.raw (.slice (some ⟨gs, 0, none⟩) (S.L.map sortF).length sc)) rfl (fun _ w1 _ hI1 => load_cell aggSorts (sr_cell (p := p) (S := S) (hI1.res 0 rfl rfl) 1 rfl rfl)) ?_; (refine st rfl ?_; conv => arg 3; whnf)))
            rw [hn0]
            (repeat ((first | refine n_must rfl ?_ | refine n_chk (drawF_ok (by decide +kernel)) ?_ | refine n_same rfl ?_ | ((first | refine n_must ?_ ?_ | refine n_brT ?_ ?_); (focus (first | (simp [s2]; done) | (simp [s2]; omega) | (simp only [s2]; simp; done)))) | (refine n_brF ?_ ?_; (focus (first | (simp [s2]; done) | (simp [s2]; omega) | (simp only [s2]; simp; done)))) | refine n_must (by (with_reducible refine and_shape ?_) <;> kernel_rfl) ?_); (refine st rfl ?_; conv => arg 3; whnf)))
            (first | (refine n_ldI (.int .i64 (sortF q)) rfl rfl (fun _ w1 _ hI1 => load_cell aggSort (rw_cell (sr_s (hI1.res 0 rfl rfl)) rfl (i := i) hsq rfl)) ?_; (refine st rfl ?_; conv => arg 3; whnf)) | (refine n_ldDI (.int .i64 (sortF q)) rfl rfl (fun _ w1 _ hI1 => load_cell aggSort (rw_cell (sr_s (hI1.res 0 rfl rfl)) rfl (i := i) hsq rfl)) ?_; (refine st rfl ?_; conv => arg 3; whnf)) | (refine n_ldRI (.int .i64 (sortF q)) rfl (fun _ w1 _ hI1 => load_cell aggSort (rw_cell (sr_s (hI1.res 0 rfl rfl)) rfl (i := i) hsq rfl)) ?_; (refine st rfl ?_; conv => arg 3; whnf)))
            (repeat ((first | refine n_must rfl ?_ | refine n_chk (drawF_ok (by decide +kernel)) ?_ | refine n_same rfl ?_ | ((first | refine n_must ?_ ?_ | refine n_brT ?_ ?_); (focus (first | (simp [s2]; done) | (simp [s2]; omega) | (simp only [s2]; simp; done)))) | (refine n_brF ?_ ?_; (focus (first | (simp [s2]; done) | (simp [s2]; omega) | (simp only [s2]; simp; done)))) | refine n_must (by (with_reducible refine and_shape ?_) <;> kernel_rfl) ?_); (refine st rfl ?_; conv => arg 3; whnf)))
            by_cases e0 : D.2.2 = 0
            · have hbf : badF S i D = false := by rw [hbD]; simp [s1, e0]
              (repeat ((first | refine n_must rfl ?_ | refine n_chk (drawF_ok (by decide +kernel)) ?_ | refine n_same rfl ?_ | ((first | refine n_must ?_ ?_ | refine n_brT ?_ ?_); (focus (first | (simp [s1, e0]; done) | (simp [s1, e0]; omega) | (simp only [s1, e0]; simp; done)))) | (refine n_brF ?_ ?_; (focus (first | (simp [s1, e0]; done) | (simp [s1, e0]; omega) | (simp only [s1, e0]; simp; done)))) | refine n_must (by (with_reducible refine and_shape ?_) <;> kernel_rfl) ?_); (refine st rfl ?_; conv => arg 3; whnf)))
              rw [if_neg (by rw [hbf]; simp)] at hR
              rw [bit_or sd i hst (by omega)]
              have hun2 := unset_or (S := S) hil hb
              have hor := or_lt hst (show i < 12 by omega)
              have hlen9 := fromF_len S n (sd ||| 2 ^ i) D.1 V1
              generalize hFR : fromF S n (sd ||| 2 ^ i) D.1 V1 = FR at hR hlen9
              refine n_callR (Y := Option Addr × Nat) 2 (ρ := vmRes vb V1) (fun y => (vmRes vb FR.2).both (oRes y (ansL FR))) (fun y => .tup [.raw (.slice y.1 (ansL FR).length y.2), .bool FR.1.isSome]) (fun y => .tuple #[.slice y.1 (ansL FR).length y.2, .bool FR.1.isSome]) (fun _ => True) rfl rfl (fun _ => rfl) rfl rfl rfl (fun _ w1 hp1 hI1 hR1 => by
                have h := ih (sd ||| 2 ^ i) (by omega) hor (by omega) d2 dok (hI1.res 0 rfl rfl) (hI1.res 5 rfl rfl) hR1 (hI1.resLt 0 rfl rfl) (hI1.resLt 2 rfl rfl) (hI1.res_res 0 5 (by decide) rfl rfl rfl rfl) (hI1.res_res 0 2 (by decide) rfl rfl rfl rfl) (hI1.res_res 5 2 (by decide) rfl rfl rfl rfl)
                rw [hFR] at h
                exact h) ?_
              rintro ⟨yo, yc⟩ _
              obtain ⟨F1, V2⟩ := FR
              dsimp only at hR hlen9 ⊢
              (refine st rfl ?_; conv => arg 3; whnf)
              cases F1 with
              | none =>
                dsimp only at hR
                refine gw ?_
                refine n_againM fun ids' w' hp hI' => ⟨(i + 1, V2), ⟨by dsimp only; omega, hR⟩, by dsimp only; omega, (by (repeat (first | exact trivial | refine ⟨⟨rfl, rfl⟩, ?_⟩ | refine ⟨⟨rfl, congrArg (SV.int .i64) ei⟩, ?_⟩))), ⟨_, hI'.fst 2 rfl rfl rfl⟩⟩
              | some l =>
                dsimp only at hR
                subst hR
                have hl9 := hlen9 l rfl
                have hal : (ansL (some l, V2)).length = l.length := by simp
                refine gw ?_
                refine n_build1 rfl rfl elemInt rfl rfl rfl rfl rfl rfl rfl rfl rfl ?_
                (refine st rfl ?_; conv => arg 3; whnf)
                refine gw ?_
                refine n_op1 rfl fun q6 => ?_
                refine n_opF (P := yo = none → (ansL (some l, V2)).length = 0) (fun _ w1 _ hI1 => fun h0 => by
                  have h1 := (hI1.res 2 rfl rfl).2.1
                  rcases Nat.eq_zero_or_pos (ansL (some l, V2)).length with h2 | h2
                  · exact h2
                  · obtain ⟨g, hg⟩ := rowRes_some' h1 h2
                    rw [h0] at hg; cases hg) fun hnil => ?_
                refine n_appendS (n := 1) (m := (ansL (some l, V2)).length) (q := q6) (j := 6) (nv := ints (ansL (some l, V2))) (xs := [.int .i64 (i : Int)]) (xs' := ints (ansL (some (i :: l), V2))) rfl rfl elemInt hiti hpi9.1 hpi9.2.1 hpi9.2.2 rfl (by omega) rfl rfl rfl rfl rfl rfl rfl rfl rfl (by simp) (fun _ w1 _ hI1 => rd_of_row (hI1.res 2 rfl rfl).2.1) hnil (by intro u hu; obtain ⟨v, _, rfl⟩ := List.mem_map.1 hu; rfl) (by omega) (by omega) (by omega) (by simp) ?_
                intro g6 c6
                rw [show 1 + (ansL (some l, V2)).length = (ansL (some (i :: l), V2)).length by simp; omega]
                (refine st rfl ?_; conv => arg 3; whnf)
                refine gw ?_
                refine n_leaveM ?_
                exact n_ret0 rfl rfl fun ids' w' hp hI' => ⟨(some ⟨g6, 0, none⟩, c6), rfl, trivial, both_post hI' rfl 2 6 (by decide) rfl rfl⟩
            · (repeat ((first | refine n_must rfl ?_ | refine n_chk (drawF_ok (by decide +kernel)) ?_ | refine n_same rfl ?_ | ((first | refine n_must ?_ ?_ | refine n_brT ?_ ?_); (focus (first | (simp [s1, e0]; done) | (simp [s1, e0]; omega) | (simp only [s1, e0]; simp; done)))) | (refine n_brF ?_ ?_; (focus (first | (simp [s1, e0]; done) | (simp [s1, e0]; omega) | (simp only [s1, e0]; simp; done)))) | refine n_must (by (with_reducible refine and_shape ?_) <;> kernel_rfl) ?_); (refine st rfl ?_; conv => arg 3; whnf)))
              have hbt : badF S i D = true := by rw [hbD]; simp [s1, e0]
              rw [if_pos hbt] at hR
              refine n_againM fun ids' w' hp hI' => ⟨(i + 1, V1), ⟨by dsimp only; omega, hR⟩, by dsimp only; omega, (by (repeat (first | exact trivial | refine ⟨⟨rfl, rfl⟩, ?_⟩ | refine ⟨⟨rfl, congrArg (SV.int .i64) ei⟩, ?_⟩))), ⟨_, hI'⟩⟩
      · by_cases s1 : sortF q = 1
        · (repeat ((first | refine n_must rfl ?_ | refine n_chk (drawF_ok (by decide +kernel)) ?_ | refine n_same rfl ?_ | ((first | refine n_must ?_ ?_ | refine n_brT ?_ ?_); (focus (first | (simp [s1]; done) | (simp [s1]; omega) | (simp only [s1]; simp; done)))) | (refine n_brF ?_ ?_; (focus (first | (simp [s1]; done) | (simp [s1]; omega) | (simp only [s1]; simp; done)))) | refine n_must (by (with_reducible refine and_shape ?_) <;> kernel_rfl) ?_); (refine st rfl ?_; conv => arg 3; whnf)))
          refine n_sameP (.bool (openF q)) rfl rfl rfl (fun _ w1 hp1 hI1 => cOpen_ok q w1) ?_; (refine st rfl ?_; conv => arg 3; whnf)
          cases hop : openF q with
          | true => rw [decide_eq_false s0, hop] at hc3; simp at hc3
          | false =>
            (repeat ((first | refine n_must rfl ?_ | refine n_chk (drawF_ok (by decide +kernel)) ?_ | refine n_same rfl ?_ | ((first | refine n_must ?_ ?_ | refine n_brT ?_ ?_); (focus (first | (simp [hop]; done) | (simp [hop]; omega) | (simp only [hop]; simp; done)))) | (refine n_brF ?_ ?_; (focus (first | (simp [hop]; done) | (simp [hop]; omega) | (simp only [hop]; simp; done)))) | refine n_must (by (with_reducible refine and_shape ?_) <;> kernel_rfl) ?_); (refine st rfl ?_; conv => arg 3; whnf)))
            have hcf : candF S sd i = false := by rw [hcand, decide_eq_true s1, hop]; simp
            rw [if_pos hcf] at hR
            refine n_againM fun ids' w' hp hI' => ⟨(i + 1, V1), ⟨by dsimp only; omega, hR⟩, by dsimp only; omega, (by (repeat (first | exact trivial | refine ⟨⟨rfl, rfl⟩, ?_⟩ | refine ⟨⟨rfl, congrArg (SV.int .i64) ei⟩, ?_⟩))), ⟨_, hI'⟩⟩
        · rw [decide_eq_false s0, decide_eq_false s1] at hc3; simp at hc3
    · obtain rfl : i = S.n := by omega
      rw [List.drop_of_length_le (by simp), tryF, keyF_like hsame.symm] at hR
      subst hR
      refine gw ?_
      refine n_exitM rfl ?_
      (refine st rfl ?_; conv => arg 3; whnf)
      refine gw ?_
      refine n_ldDI (.raw (.map (some vb))) rfl rfl (fun _ w1 _ hI1 => load_cell aggVm (sr_cell (p := p) (a := ⟨ho, hc, so, sc, dd, dc, no, nc, vb⟩) (S := S) (hI1.res 0 rfl rfl) 4 rfl rfl)) ?_
      (refine st rfl ?_; conv => arg 3; whnf)
      refine gw ?_
      refine n_mapUpdate (E := stateE) (ev' := boolV) (i := 2) (b := vb) (vr := .lit true) (ρ := vmRes vb V1) (vmRes vb (mput V1 (keyF S sd A) true)) V1 (keyF S sd A) true stateK rfl rfl rfl rfl rfl rfl hkok rfl rfl rfl rfl rfl (by simp [vmRes]) rfl (fun _ _ _ _ h => by exact h) (fun _ _ _ _ _ _ _ h => by exact h) ?_
      (refine st rfl ?_; conv => arg 3; whnf)
      refine gw ?_
      exact n_ret0 rfl rfl fun ids' w' hp hI' => ⟨(none, 0), rfl, trivial, nil_post hI' rfl 2 rfl⟩
end Go.Proofs.Ytfcbcgjgkleonaa
