/- sluiceref5: List. -/
import Derived.Test.YtjmaddmklogchaaWkL
set_option maxRecDepth 100000
set_option linter.unusedSimpArgs false
set_option linter.unusedVariables false
set_option maxHeartbeats 8000000
namespace Go.Proofs.Ytjmaddmklogchaa
open Go.RowKit

theorem insT_at {t : Tm} : ∀ {L : List Tm} {k : Nat}, (∀ a ∈ L.take k, ¬ t.due < a.due) → (∀ a ∈ L.drop k, t.due < a.due) → insT t L = L.take k ++ t :: L.drop k
  | [], k, _, _ => by simp [insT]
  | a :: L, 0, _, h2 => by
    have := h2 a (by simp)
    simp [insT, this]
  | a :: L, k + 1, h1, h2 => by
    have h := h1 a (by simp)
    rw [insT, if_neg h, insT_at (k := k) (fun b hb => h1 b (by simp [hb])) (fun b hb => h2 b (by simpa using hb))]
    simp
def lstP (A : List Tm) (i : Nat) : List Tm := (A.take i).foldl (fun l t => insT t l) []
theorem lstP_next {A : List Tm} {i : Nat} {t : Tm} (h : A[i]? = some t) : lstP A (i + 1) = insT t (lstP A i) := by unfold lstP; rw [t_next h, List.foldl_append]; rfl
theorem lstP_ok {A : List Tm} (up : A.Pairwise fun a b => a.num < b.num) {i : Nat} (hi : i ≤ A.length) : (lstP A i).length = i ∧ (lstP A i).Pairwise fun a b => a.due ≤ b.due := by
  obtain ⟨h1, h2⟩ := listT_ok (A := A.take i) (up.sublist (List.take_sublist _ _))
  refine ⟨?_, h2.imp fun h => by unfold Tm.lt at h; omega⟩
  show (listT (A.take i)).length = i
  rw [h1.length_eq, List.length_take]; omega
theorem lstP_all {A : List Tm} : lstP A A.length = listT A := by unfold lstP; rw [List.take_length]; rfl
theorem rList_ok {q : Nat} {R : Rf} {N : Nat} {w : World} (hW : R.s.ok N) (hN : N ≤ 1000000) (hR : (rfRes q R).R w) :
    Calls Try.prog 23 #[pV q] w fun e w' => ∃ y : Option Addr × Nat, e = .returned (.slice y.1 (listT R.s.A).length y.2) ∧ True ∧ FreshR w w' (tRow y.1 (listT R.s.A).length y.2 (tms (listT R.s.A))) := by
  obtain ⟨oR, capR, s⟩ := R
  dsimp only at hW hR ⊢
  have hlen := hW.len
  have hI : Inv (cx 57 [] [] w) w [q, 0] (ro (rfMem ⟨oR, capR, s⟩)) := memRes_read hR
  obtain ⟨itt, hitt, hpt⟩ := Option.map_eq_some_iff.1 infoTm
  simp only [Prod.mk.injEq] at hpt
  refine calls_sm (cx 57 [] [] w) (vals := [.ptr 0 0]) mixed Try.func23 rfl rfl rfl hI rfl (st rfl ?_); conv => arg 3; whnf
  refine gw ?_
  refine n_loopX [0] (ro (rfMem ⟨oR, capR, s⟩) ++ [⟨54, [.res (tRow (((0, (none, 0)) : Nat × (Option Addr × Nat))).2.1 (lstP s.A (((0, (none, 0)) : Nat × (Option Addr × Nat))).1).length (((0, (none, 0)) : Nat × (Option Addr × Nat))).2.2 (tms (lstP s.A (((0, (none, 0)) : Nat × (Option Addr × Nat))).1)))], true⟩]) rfl (fun w1 hI1 => ?_) ?_
  · exact hI1.addR (Frm.refl [] w1) (tRow none 0 0 []) 54 true (rowRes_nil _ _ _) (by simp [rowRes]) (by simp [rowRes])
  refine n_loop (σ := Nat × (Option Addr × Nat)) (fun t => [(0, .ptr 0 0), (3, .raw (.slice t.2.1 (lstP s.A t.1).length t.2.2)), (4, .int .i64 (t.1 : Nat))]) (fun t => (ro (rfMem ⟨oR, capR, s⟩) ++ [⟨54, [.res (tRow (t).2.1 (lstP s.A (t).1).length (t).2.2 (tms (lstP s.A (t).1)))], true⟩])) (fun t => t.1 ≤ s.A.length) (fun t => s.A.length - t.1) (0, (none, 0)) mixed (by dsimp only; omega) (fun _ _ => rfl) rfl (by (repeat (first | exact trivial | refine ⟨⟨rfl, rfl⟩, ?_⟩))) (fun s _ => ⟨by (repeat (first | exact trivial | refine ⟨⟨_, rfl⟩, ?_⟩)), by (repeat (first | exact trivial | refine ⟨⟨_, rfl⟩, ?_⟩))⟩) fun t ht => ?_
  obtain ⟨i, ⟨lo, lc⟩⟩ := t
  dsimp only at ht ⊢
  obtain ⟨hLl, hLs⟩ := lstP_ok hW.up ht
  (refine gs ?_)
  by_cases hil : i < s.A.length
  · have ei : IntKind.i64.wrap ((i : Int) + 1) = ((i + 1 : Nat) : Int) := by rw [w64 (by omega) (by omega)]; simp
    have hx : s.A[i]? = some s.A[i] := List.getElem?_eq_getElem _
    obtain ⟨gR, rfl⟩ := rowRes_some' (memRes_res hR 1 rfl rfl) (by dsimp only; omega)
    generalize s.A[i] = t at hx
    have hnx := lstP_next hx
    have hnl : (lstP s.A (i + 1)).length = i + 1 := (lstP_ok hW.up hil).1
    generalize hL : lstP s.A i = L at *
    (repeat ((first | refine n_must rfl ?_ | refine n_chk (drawF_ok (by decide +kernel)) ?_ | refine n_same rfl ?_ | ((first | refine n_must ?_ ?_ | refine n_brT ?_ ?_); (focus (first | (simp [hil]; done) | (simp [hil]; omega) | (simp only [hil]; simp; done)))) | (refine n_brF ?_ ?_; (focus (first | (simp [hil]; done) | (simp [hil]; omega) | (simp only [hil]; simp; done)))) | refine n_must (by (with_reducible refine and_shape ?_) <;> kernel_rfl) ?_); (refine gs ?_)))
    (refine n_ldA (.agg t.sv) rfl (by first | exact trivial | rfl) rfl (fun _ w1 _ hI1 => tm_load (a := ⟨gR, 0, none⟩) (rd_of_row (hI1.res 1 rfl rfl)) hx rfl) ?_; (refine gs ?_))
    refine gw ?_
    refine n_build1 rfl rfl elemTm rfl rfl rfl rfl rfl rfl rfl rfl rfl ?_
    (refine gs ?_)
    refine gw ?_
    refine n_append (nv := t.l) 2 rfl rfl elemTm hitt hpt.1 hpt.2.1 hpt.2.2 rfl (by omega) rfl rfl rfl rfl rfl rfl (by omega) (by simp [Value.oneCell']) (by omega) (by omega) (tms_add L t) fun g c => ?_
    (refine gs ?_)
    refine gw ?_
    refine n_loop2 rfl fun b3 b4 => ?_
    rw [hLl]
    refine n_loop (σ := Nat × List Tm) (fun u => [(0, .ptr 0 0), (3, .raw (.slice (some ⟨g, 0, none⟩) (i + 1) c)), (4, .int .i64 (i : Nat)), (5, .ptr 3 0), (6, .int .i64 (u.1 : Nat))]) (fun u => [⟨66, [.int .i64 s.now, .int .i64 s.last, .raw (.slice (some ⟨gR, 0, none⟩) s.A.length capR)], false⟩, ⟨54, [.res (tRow (some ⟨gR, 0, none⟩) s.A.length capR (tms s.A))], false⟩, ⟨54, [.res (tRow (some ⟨g, 0, none⟩) (i + 1) c (tms u.2))], true⟩, ⟨54, t.sv, true⟩, ⟨54, t.sv, true⟩]) (fun u => u.1 ≤ i ∧ u.2.length = i + 1 ∧ u.2.take u.1 = L.take u.1 ∧ u.2.drop (u.1 + 1) = L.drop u.1 ∧ ∀ a ∈ L.drop u.1, t.due < a.due) (fun u => u.1) (i, L ++ [t]) mixed ⟨by dsimp only; omega, by simp [hLl], by dsimp only; rw [List.take_append_of_le_length (by omega)], by dsimp only; rw [List.drop_of_length_le (by simp [hLl]), List.drop_of_length_le (by omega)], by dsimp only; rw [List.drop_of_length_le (by omega)]; simp⟩ (fun _ _ => rfl) rfl (by (repeat (first | exact trivial | refine ⟨⟨rfl, rfl⟩, ?_⟩))) (fun s _ => ⟨by (repeat (first | exact trivial | refine ⟨⟨_, rfl⟩, ?_⟩)), by (repeat (first | exact trivial | refine ⟨⟨_, rfl⟩, ?_⟩))⟩) fun u hu => ?_
    obtain ⟨k, X⟩ := u
    obtain ⟨hki, hXl, hXt, hXd, hgt⟩ := hu
    dsimp only at hki hXl hXt hXd hgt ⊢
    (refine gs ?_)
    have hX2 : (∀ a ∈ L.take k, ¬ t.due < a.due) → X.set k t = lstP s.A (i + 1) := fun h => by
      rw [hnx, insT_at h hgt, List.set_eq_take_append_cons_drop, if_pos (by omega), hXt, hXd]
    by_cases hk0 : 0 < k
    · have ek : IntKind.i64.wrap ((k : Int) - 1) = ((k - 1 : Nat) : Int) := by rw [w64 (by omega) (by omega)]; omega
      have hxk : L[k - 1]? = some L[k - 1] := List.getElem?_eq_getElem _
      generalize hak : L[k - 1] = a at hxk
      have hXk : X[k - 1]? = some a := by
        have h1 : (X.take k)[k - 1]? = (L.take k)[k - 1]? := by rw [hXt]
        rw [List.getElem?_take, List.getElem?_take, if_pos (by omega), if_pos (by omega)] at h1
        rw [h1, hxk]
      have ea : (⟨g, 0, none⟩ : Addr).add ((IntKind.i64.wrap ((k : Int) - 1)).toNat * 4) = (⟨g, 0, none⟩ : Addr).add ((k - 1) * 4) := by rw [ek]; simp
      (repeat ((first | refine n_must rfl ?_ | refine n_chk (drawF_ok (by decide +kernel)) ?_ | refine n_same rfl ?_ | ((first | refine n_must ?_ ?_ | refine n_brT ?_ ?_); (focus (first | (simp [hk0, ek]; done) | (simp [hk0, ek]; omega) | (simp only [hk0, ek]; simp; done)))) | (refine n_brF ?_ ?_; (focus (first | (simp [hk0, ek]; done) | (simp [hk0, ek]; omega) | (simp only [hk0, ek]; simp; done)))) | refine n_must (by (with_reducible refine and_shape ?_) <;> kernel_rfl) ?_); (refine gs ?_)))
      (refine n_ldA (.int .i64 a.due) rfl (by first | exact trivial | rfl) rfl (fun _ w1 _ hI1 => load_cell aggInt (tm_cell (a := ⟨g, 0, none⟩) (rd_of_row (hI1.res 2 rfl rfl)) hXk 0 rfl (show ((⟨g, 0, none⟩ : Addr).add ((IntKind.i64.wrap ((k : Int) - 1)).toNat * 4)).add 0 = _ by rw [ea, add_add]))) ?_; (refine gs ?_))
      by_cases hd : t.due < a.due
      · (repeat ((first | refine n_must rfl ?_ | refine n_chk (drawF_ok (by decide +kernel)) ?_ | refine n_same rfl ?_ | ((first | refine n_must ?_ ?_ | refine n_brT ?_ ?_); (focus (first | (simp [hd, hk0, ek]; done) | (simp [hd, hk0, ek]; omega) | (simp only [hd, hk0, ek]; simp; done)))) | (refine n_brF ?_ ?_; (focus (first | (simp [hd, hk0, ek]; done) | (simp [hd, hk0, ek]; omega) | (simp only [hd, hk0, ek]; simp; done)))) | refine n_must (by (with_reducible refine and_shape ?_) <;> kernel_rfl) ?_); (refine gs ?_)))
        (refine n_ldA (.agg a.sv) rfl (by first | exact trivial | rfl) rfl (fun _ w1 _ hI1 => tm_load (a := ⟨g, 0, none⟩) (rd_of_row (hI1.res 2 rfl rfl)) hXk ea) ?_; (refine gs ?_))
        have hkn : k < i + 1 := by omega
        (repeat ((first | refine n_must rfl ?_ | refine n_chk (drawF_ok (by decide +kernel)) ?_ | refine n_same rfl ?_ | ((first | refine n_must ?_ ?_ | refine n_brT ?_ ?_); (focus (first | (simp [hkn]; done) | (simp [hkn]; omega) | (simp only [hkn]; simp; done)))) | (refine n_brF ?_ ?_; (focus (first | (simp [hkn]; done) | (simp [hkn]; omega) | (simp only [hkn]; simp; done)))) | refine n_must (by (with_reducible refine and_shape ?_) <;> kernel_rfl) ?_); (refine gs ?_)))
        refine n_storeRow (g := g) (off := k * 4) (k := 4) (rv := .agg a.sv) (v := a.val) 2 (tms (X.set k a)) rfl rfl rfl ((show _ = (⟨g, 0, none⟩ : Addr).add (k * 4) from rfl).trans (by rw [add_mk])) rfl rfl sizeTm rfl rfl rfl (by rw [tms_len, hXl]; omega) (flat_set tm_len (by omega)) ?_
        (refine gs ?_)
        refine gw ?_
        have hdk : L.drop (k - 1) = a :: L.drop k := by
          rw [List.drop_eq_getElem_cons (by omega), hak, show k - 1 + 1 = k by omega]
        refine n_again ⟨(k - 1, X.set k a), ⟨by dsimp only; omega, by simpa using hXl, ?_, ?_, ?_⟩, by dsimp only; omega, (by (repeat (first | exact trivial | refine ⟨⟨rfl, rfl⟩, ?_⟩ | refine ⟨⟨rfl, congrArg (SV.int .i64) ek⟩, ?_⟩))), ⟨_, rfl⟩⟩
        · dsimp only
          have h := congrArg (List.take (k - 1)) hXt
          rw [List.take_take, List.take_take, Nat.min_eq_left (by omega)] at h
          rw [List.take_set_of_le (by omega)]
          exact h
        · dsimp only
          rw [show k - 1 + 1 = k by omega, hdk, List.drop_eq_getElem_cons (by simp; omega), List.getElem_set_self, List.drop_set_of_lt (by omega), hXd]
        · dsimp only
          rw [hdk]
          intro b hb
          rcases List.mem_cons.1 hb with rfl | hb
          · exact hd
          · exact hgt b hb
      · have hX2 := hX2 fun b hb => by
          obtain ⟨j, hj, rfl⟩ := List.mem_take_iff_getElem.1 hb
          have hj' : j < k := by omega
          by_cases hjk : j = k - 1
          · subst hjk; rw [hak]; exact hd
          · have := (List.pairwise_iff_getElem.1 hLs) j (k - 1) (by omega) (by omega) (by omega)
            rw [hak] at this
            omega
        (repeat ((first | refine n_must rfl ?_ | refine n_chk (drawF_ok (by decide +kernel)) ?_ | refine n_same rfl ?_ | ((first | refine n_must ?_ ?_ | refine n_brT ?_ ?_); (focus (first | (simp [hd, hk0, ek]; done) | (simp [hd, hk0, ek]; omega) | (simp only [hd, hk0, ek]; simp; done)))) | (refine n_brF ?_ ?_; (focus (first | (simp [hd, hk0, ek]; done) | (simp [hd, hk0, ek]; omega) | (simp only [hd, hk0, ek]; simp; done)))) | refine n_must (by (with_reducible refine and_shape ?_) <;> kernel_rfl) ?_); (refine gs ?_)))
        refine n_exit rfl ?_
        (refine gs ?_)
        have hkn : k < i + 1 := by omega
        (repeat ((first | refine n_must rfl ?_ | refine n_chk (drawF_ok (by decide +kernel)) ?_ | refine n_same rfl ?_ | ((first | refine n_must ?_ ?_ | refine n_brT ?_ ?_); (focus (first | (simp [hkn]; done) | (simp [hkn]; omega) | (simp only [hkn]; simp; done)))) | (refine n_brF ?_ ?_; (focus (first | (simp [hkn]; done) | (simp [hkn]; omega) | (simp only [hkn]; simp; done)))) | refine n_must (by (with_reducible refine and_shape ?_) <;> kernel_rfl) ?_); (refine gs ?_)))
        refine n_storeRow (g := g) (off := k * 4) (k := 4) (rv := .agg t.sv) (v := t.val) 2 (tms (lstP s.A (i + 1))) rfl rfl rfl ((show _ = (⟨g, 0, none⟩ : Addr).add (k * 4) from rfl).trans (by rw [add_mk])) rfl rfl sizeTm rfl rfl rfl (by rw [tms_len, hXl]; omega) (by rw [← hX2]; exact flat_set tm_len (by omega)) ?_
        (refine gs ?_)
        refine gw ?_
        refine n_again ⟨(i + 1, (some ⟨g, 0, none⟩, c)), by dsimp only; omega, by dsimp only; omega, ?_, ?_⟩
        · dsimp only
          rw [hnl]
          exact (by (repeat (first | exact trivial | refine ⟨⟨rfl, rfl⟩, ?_⟩ | refine ⟨⟨rfl, congrArg (SV.int .i64) ei⟩, ?_⟩)))
        · dsimp only
          rw [hnl]
          exact ⟨_, rfl⟩
    · obtain rfl : k = 0 := by omega
      have hX2 := hX2 (by simp)
      (repeat ((first | refine n_must rfl ?_ | refine n_chk (drawF_ok (by decide +kernel)) ?_ | refine n_same rfl ?_ | ((first | refine n_must ?_ ?_ | refine n_brT ?_ ?_); (focus (first | (simp [hk0]; done) | (simp [hk0]; omega) | (simp only [hk0]; simp; done)))) | (refine n_brF ?_ ?_; (focus (first | (simp [hk0]; done) | (simp [hk0]; omega) | (simp only [hk0]; simp; done)))) | refine n_must (by (with_reducible refine and_shape ?_) <;> kernel_rfl) ?_); (refine gs ?_)))
      refine n_exit rfl ?_
      (refine gs ?_)
      have hkn : 0 < i + 1 := by omega
      (repeat ((first | refine n_must rfl ?_ | refine n_chk (drawF_ok (by decide +kernel)) ?_ | refine n_same rfl ?_ | ((first | refine n_must ?_ ?_ | refine n_brT ?_ ?_); (focus (first | (simp [hkn]; done) | (simp [hkn]; omega) | (simp only [hkn]; simp; done)))) | (refine n_brF ?_ ?_; (focus (first | (simp [hkn]; done) | (simp [hkn]; omega) | (simp only [hkn]; simp; done)))) | refine n_must (by (with_reducible refine and_shape ?_) <;> kernel_rfl) ?_); (refine gs ?_)))
      refine n_storeRow (g := g) (off := 0 * 4) (k := 4) (rv := .agg t.sv) (v := t.val) 2 (tms (lstP s.A (i + 1))) rfl rfl rfl ((show _ = (⟨g, 0, none⟩ : Addr).add (0 * 4) from rfl).trans (by rw [add_mk])) rfl rfl sizeTm rfl rfl rfl (by rw [tms_len, hXl]; omega) (by rw [← hX2]; exact flat_set tm_len (by omega)) ?_
      (refine gs ?_)
      refine gw ?_
      refine n_again ⟨(i + 1, (some ⟨g, 0, none⟩, c)), by dsimp only; omega, by dsimp only; omega, ?_, ?_⟩
      · dsimp only
        rw [hnl]
        exact (by (repeat (first | exact trivial | refine ⟨⟨rfl, rfl⟩, ?_⟩ | refine ⟨⟨rfl, congrArg (SV.int .i64) ei⟩, ?_⟩)))
      · dsimp only
        rw [hnl]
        exact ⟨_, rfl⟩
  · obtain rfl : i = s.A.length := by omega
    (repeat ((first | refine n_must rfl ?_ | refine n_chk (drawF_ok (by decide +kernel)) ?_ | refine n_same rfl ?_ | ((first | refine n_must ?_ ?_ | refine n_brT ?_ ?_); (focus (first | (simp [hil]; done) | (simp [hil]; omega) | (simp only [hil]; simp; done)))) | (refine n_brF ?_ ?_; (focus (first | (simp [hil]; done) | (simp [hil]; omega) | (simp only [hil]; simp; done)))) | refine n_must (by (with_reducible refine and_shape ?_) <;> kernel_rfl) ?_); (refine gs ?_)))
    refine n_exit rfl ?_
    (refine gs ?_)
    refine gw ?_
    refine n_ret0 rfl rfl fun ids' w' hp hI' => ⟨(lo, lc), by rw [lstP_all], trivial, ?_⟩
    rw [lstP_all] at hI'
    obtain ⟨f1, f2, f3, f4⟩ := post_res (ρ := Res.none) (ρ' := tRow lo (listT s.A).length lc (tms (listT s.A))) hI' rfl 2 rfl rfl rfl
    exact ⟨f1, f2, fun x hx => (f3 x hx).resolve_left (by simp [Res.none]), f4⟩
end Go.Proofs.Ytjmaddmklogchaa
