/- sluiceref5: Cancel, List. -/
import Derived.Test.YtjmaddmklogchaaWkK
set_option maxRecDepth 100000
set_option linter.unusedSimpArgs false
set_option linter.unusedVariables false
set_option maxHeartbeats 8000000
namespace Go.Proofs.Ytjmaddmklogchaa
open Go.RowKit

theorem has_len {s : Ws} (x : Int) : s.has x = decide ((s.A.filter (numN x)).length < s.A.length) := by
  unfold Ws.has
  rw [Bool.eq_iff_iff, decide_eq_true_eq, List.any_eq_true]
  constructor
  · rintro ⟨t, ht, e⟩
    have h := List.length_filter_lt_length_iff_exists (p := numN x) (l := s.A)
    exact h.2 ⟨t, ht, by simpa [numN] using e⟩
  · intro h
    obtain ⟨t, ht, e⟩ := (List.length_filter_lt_length_iff_exists (p := numN x) (l := s.A)).1 h
    exact ⟨t, ht, by simpa [numN] using e⟩
theorem rCancel_ok {q : Nat} {R : Rf} {N : Nat} {x : Int} {w : World} (hW : R.s.ok N) (hN : N ≤ 1000000) (hR : (rfRes q R).R w) :
    Calls Try.prog 32 #[pV q, .int .i64 x] w fun e w' => ∃ R' : Rf, e = .returned (.bool (R.s.has x)) ∧ R'.s = R.s.cancel x ∧ Post (rfRes q R) (rfRes q R') w w' := by
  have hlen := hW.len
  have hI : Inv (cx 50 [] (rfRes q R).fp w) w [q, 0] (rfMem R) := memRes_open hR fun x hx => hx
  obtain ⟨itt, hitt, hpt⟩ := Option.map_eq_some_iff.1 infoTm
  simp only [Prod.mk.injEq] at hpt
  refine calls_sm (cx 50 [] (rfRes q R).fp w) (vals := [.ptr 0 0, .int .i64 x]) mixed Try.func32 rfl rfl rfl hI rfl (st rfl ?_); conv => arg 3; whnf
  refine gw ?_
  refine n_loopX [0] (rfMem R ++ [⟨54, [.res (tRow (((0, (none, 0)) : Nat × (Option Addr × Nat))).2.1 (kp x R.s.A (((0, (none, 0)) : Nat × (Option Addr × Nat))).1).length (((0, (none, 0)) : Nat × (Option Addr × Nat))).2.2 (tms (kp x R.s.A (((0, (none, 0)) : Nat × (Option Addr × Nat))).1)))], true⟩]) rfl (fun w1 hI1 => ?_) ?_
  · exact hI1.addR (Frm.refl [] w1) (tRow none 0 0 []) 54 true (rowRes_nil _ _ _) (by simp [rowRes]) (by simp [rowRes])
  refine n_loop (σ := Nat × (Option Addr × Nat)) (fun t => [(0, .ptr 0 0), (1, .int .i64 x), (5, .raw (.slice t.2.1 (kp x R.s.A t.1).length t.2.2)), (6, .int .i64 (t.1 : Nat))]) (fun t => (rfMem R ++ [⟨54, [.res (tRow (t).2.1 (kp x R.s.A (t).1).length (t).2.2 (tms (kp x R.s.A (t).1)))], true⟩])) (fun t => t.1 ≤ R.s.A.length) (fun t => R.s.A.length - t.1) (0, (none, 0)) mixed (by dsimp only; omega) (fun _ _ => rfl) rfl (by (repeat (first | exact trivial | refine ⟨⟨rfl, rfl⟩, ?_⟩))) (fun s _ => ⟨by (repeat (first | exact trivial | refine ⟨⟨_, rfl⟩, ?_⟩)), by (repeat (first | exact trivial | refine ⟨⟨_, rfl⟩, ?_⟩))⟩) fun t ht => ?_
  obtain ⟨i, ⟨lo, lc⟩⟩ := t
  obtain ⟨o, cap, s⟩ := R
  dsimp only at ht hlen hR ⊢
  (refine gs ?_)
  by_cases hil : i < s.A.length
  · have ei : IntKind.i64.wrap ((i : Int) + 1) = ((i + 1 : Nat) : Int) := by rw [w64 (by omega) (by omega)]; simp
    have hx : s.A[i]? = some s.A[i] := List.getElem?_eq_getElem _
    obtain ⟨g, rfl⟩ := rowRes_some' (memRes_res hR 1 rfl rfl) (by dsimp only; omega)
    generalize s.A[i] = t at hx
    have hdl : (kp x s.A i).length ≤ i := kp_le
    (repeat ((first | refine n_must rfl ?_ | refine n_chk (drawF_ok (by decide +kernel)) ?_ | refine n_same rfl ?_ | ((first | refine n_must ?_ ?_ | refine n_brT ?_ ?_); (focus (first | (simp [hil]; done) | (simp [hil]; omega) | (simp only [hil]; simp; done)))) | (refine n_brF ?_ ?_; (focus (first | (simp [hil]; done) | (simp [hil]; omega) | (simp only [hil]; simp; done)))) | refine n_must (by (with_reducible refine and_shape ?_) <;> kernel_rfl) ?_); (refine gs ?_)))
    (refine n_ldA (.int .i64 t.num) rfl (by first | exact trivial | rfl) rfl (fun _ w1 _ hI1 => load_cell aggInt (tm_cell (a := ⟨g, 0, none⟩) (rd_of_row (hI1.res 1 rfl rfl)) hx 1 rfl (add_add _ _ _))) ?_; (refine gs ?_))
    by_cases hxd : t.num = x
    · have hk := kp_out hx hxd
      (repeat ((first | refine n_must rfl ?_ | refine n_chk (drawF_ok (by decide +kernel)) ?_ | refine n_same rfl ?_ | ((first | refine n_must ?_ ?_ | refine n_brT ?_ ?_); (focus (first | (simp [hxd]; done) | (simp [hxd]; omega) | (simp only [hxd]; simp; done)))) | (refine n_brF ?_ ?_; (focus (first | (simp [hxd]; done) | (simp [hxd]; omega) | (simp only [hxd]; simp; done)))) | refine n_must (by (with_reducible refine and_shape ?_) <;> kernel_rfl) ?_); (refine gs ?_)))
      refine n_again ⟨(i + 1, (lo, lc)), by dsimp only; omega, by dsimp only; omega, ?_, ?_⟩
      · dsimp only
        rw [hk]
        exact (by (repeat (first | exact trivial | refine ⟨⟨rfl, rfl⟩, ?_⟩ | refine ⟨⟨rfl, congrArg (SV.int .i64) ei⟩, ?_⟩)))
      · dsimp only
        rw [hk]
        exact ⟨_, rfl⟩
    · have hk := kp_in hx hxd
      have hkl : (kp x s.A (i + 1)).length = (kp x s.A i).length + 1 := by rw [hk]; simp
      (repeat ((first | refine n_must rfl ?_ | refine n_chk (drawF_ok (by decide +kernel)) ?_ | refine n_same rfl ?_ | ((first | refine n_must ?_ ?_ | refine n_brT ?_ ?_); (focus (first | (simp [hxd, hil]; done) | (simp [hxd, hil]; omega) | (simp only [hxd, hil]; simp; done)))) | (refine n_brF ?_ ?_; (focus (first | (simp [hxd, hil]; done) | (simp [hxd, hil]; omega) | (simp only [hxd, hil]; simp; done)))) | refine n_must (by (with_reducible refine and_shape ?_) <;> kernel_rfl) ?_); (refine gs ?_)))
      (refine n_ldA (.agg t.sv) rfl (by first | exact trivial | rfl) rfl (fun _ w1 _ hI1 => tm_load (a := ⟨g, 0, none⟩) (rd_of_row (hI1.res 1 rfl rfl)) hx rfl) ?_; (refine gs ?_))
      refine gw ?_
      refine n_build1 rfl rfl elemTm rfl rfl rfl rfl rfl rfl rfl rfl rfl ?_
      (refine gs ?_)
      refine gw ?_
      refine n_append (nv := t.l) 2 rfl rfl elemTm hitt hpt.1 hpt.2.1 hpt.2.2 rfl (by omega) rfl rfl rfl rfl rfl rfl (by omega) (by simp [Value.oneCell']) (by omega) (by omega) (show tms _ ++ t.l = tms (kp x s.A (i + 1)) by rw [hk]; exact tms_add _ _) fun g2 c2 => ?_
      (refine gs ?_)
      refine gw ?_
      refine n_again ⟨(i + 1, (some ⟨g2, 0, none⟩, c2)), by dsimp only; omega, by dsimp only; omega, ?_, ?_⟩
      · dsimp only
        rw [hkl]
        exact (by (repeat (first | exact trivial | refine ⟨⟨rfl, rfl⟩, ?_⟩ | refine ⟨⟨rfl, congrArg (SV.int .i64) ei⟩, ?_⟩)))
      · dsimp only
        rw [hkl]
        exact ⟨_, rfl⟩
  · obtain rfl : i = s.A.length := by omega
    have hka : kp x s.A s.A.length = (s.cancel x).A := kp_all
    (repeat ((first | refine n_must rfl ?_ | refine n_chk (drawF_ok (by decide +kernel)) ?_ | refine n_same rfl ?_ | ((first | refine n_must ?_ ?_ | refine n_brT ?_ ?_); (focus (first | (simp [hil]; done) | (simp [hil]; omega) | (simp only [hil]; simp; done)))) | (refine n_brF ?_ ?_; (focus (first | (simp [hil]; done) | (simp [hil]; omega) | (simp only [hil]; simp; done)))) | refine n_must (by (with_reducible refine and_shape ?_) <;> kernel_rfl) ?_); (refine gs ?_)))
    refine n_exit rfl ?_
    (refine gs ?_)
    refine gw ?_
    refine n_ret0 rfl rfl fun ids' w' hp hI' => ⟨⟨lo, lc, s.cancel x⟩, ?_, rfl, ?_⟩
    · rw [has_len, show s.A.filter (numN x) = kp x s.A s.A.length from kp_all.symm]
      simp
    rw [hka] at hI'
    exact post_shut (ids := [q, 0]) (mem := rfMem ⟨lo, lc, s.cancel x⟩) (ρ := rfRes q ⟨o, cap, s⟩) hI' rfl [0, 2] (.blk rfl (pre_at hp rfl) rfl rfl (.res rfl .nil)) (by decide)
end Go.Proofs.Ytjmaddmklogchaa
