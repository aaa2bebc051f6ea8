/- Package wheel: the order of List; slices.SortFunc at timers. -/
import Derived.Test.YtjmaddmklogchaaSort
set_option maxRecDepth 100000
set_option linter.unusedSimpArgs false
set_option linter.unusedVariables false
set_option maxHeartbeats 8000000
namespace Go.Proofs.Ytjmaddmklogchaa
open Go.RowKit
open Go.Shelf
open Go.Sort

def cmpI (x y : Int) : Int := if x < y then -1 else if y < x then 1 else 0
def orI2 (x y : Int) : Int := if x ≠ 0 then x else y
def cmpT (a b : Tm) : Int := orI2 (cmpI a.due b.due) (cmpI a.num b.num)
theorem nan_ok (x : Int) (w : World) : Calls Try.prog 38 #[.int .i64 x] w fun e w' => e = .returned (.bool false) ∧ Frm [] w w' := by
  have hI := Inv.nil (P := Try.prog) (N := 6) (S := []) (os := []) w
  refine calls_sm (cx 6 [] [] w) (vals := [.int .i64 x]) mixed Try.func38 rfl rfl rfl hI rfl (st rfl ?_); conv => arg 3; whnf
  refine gw ?_
  refine n_ret0 rfl rfl fun ids' w' hp hI' => ⟨ret_bool ?_, hI'.frm⟩
  simp
theorem cmp_ok (x y : Int) (w : World) : Calls Try.prog 28 #[.int .i64 x, .int .i64 y] w fun e w' => e = .returned (.int .i64 (cmpI x y)) ∧ Frm [] w w' := by
  have hI := Inv.nil (P := Try.prog) (N := 20) (S := []) (os := []) w
  refine calls_sm (cx 20 [] [] w) (vals := [.int .i64 x, .int .i64 y]) mixed Try.func28 rfl rfl rfl hI rfl (st rfl ?_); conv => arg 3; whnf
  refine gw ?_
  refine n_sameP (.bool false) rfl rfl rfl (fun _ w1 hp1 hI1 => nan_ok x w1) ?_; (refine gs ?_)
  refine gw ?_
  refine n_sameP (.bool false) rfl rfl rfl (fun _ w1 hp1 hI1 => nan_ok y w1) ?_; (refine gs ?_)
  by_cases h1 : x < y
  · (repeat ((first | refine n_must rfl ?_ | refine n_chk (drawF_ok (by decide +kernel)) ?_ | refine n_same rfl ?_ | ((first | refine n_must ?_ ?_ | refine n_brT ?_ ?_); (focus (first | (simp [h1]; done) | (simp [h1]; omega) | (simp only [h1]; simp; done)))) | (refine n_brF ?_ ?_; (focus (first | (simp [h1]; done) | (simp [h1]; omega) | (simp only [h1]; simp; done)))) | refine n_must (by (with_reducible refine and_shape ?_) <;> kernel_rfl) ?_); (refine gs ?_)))
    refine n_ret0 rfl rfl fun ids' w' hp hI' => ⟨ret_int ?_, hI'.frm⟩
    simp [cmpI, h1]
  by_cases h2 : y < x
  · (repeat ((first | refine n_must rfl ?_ | refine n_chk (drawF_ok (by decide +kernel)) ?_ | refine n_same rfl ?_ | ((first | refine n_must ?_ ?_ | refine n_brT ?_ ?_); (focus (first | (simp [h1, h2]; done) | (simp [h1, h2]; omega) | (simp only [h1, h2]; simp; done)))) | (refine n_brF ?_ ?_; (focus (first | (simp [h1, h2]; done) | (simp [h1, h2]; omega) | (simp only [h1, h2]; simp; done)))) | refine n_must (by (with_reducible refine and_shape ?_) <;> kernel_rfl) ?_); (refine gs ?_)))
    refine n_ret0 rfl rfl fun ids' w' hp hI' => ⟨ret_int ?_, hI'.frm⟩
    simp [cmpI, h1, h2]
  (repeat ((first | refine n_must rfl ?_ | refine n_chk (drawF_ok (by decide +kernel)) ?_ | refine n_same rfl ?_ | ((first | refine n_must ?_ ?_ | refine n_brT ?_ ?_); (focus (first | (simp [h1, h2]; done) | (simp [h1, h2]; omega) | (simp only [h1, h2]; simp; done)))) | (refine n_brF ?_ ?_; (focus (first | (simp [h1, h2]; done) | (simp [h1, h2]; omega) | (simp only [h1, h2]; simp; done)))) | refine n_must (by (with_reducible refine and_shape ?_) <;> kernel_rfl) ?_); (refine gs ?_)))
  refine n_ret0 rfl rfl fun ids' w' hp hI' => ⟨ret_int ?_, hI'.frm⟩
  simp [cmpI, h1, h2]
theorem or_ok {x y : Int} {b : Nat} {w : World} (hb : Blk w b [Value.int .i64 x, .int .i64 y].toArray 3) : Calls Try.prog 27 #[.slice (some ⟨b, 0, none⟩) 2 2] w fun e w' => e = .returned (.int .i64 (orI2 x y)) ∧ Frm [] w w' := by
  have hI := Inv.nil (P := Try.prog) (N := 18) (S := []) (os := []) w
  have h2 : ∀ w1, Frm [] w w1 → Blk w1 b [Value.int .i64 x, .int .i64 y].toArray 3 := fun w1 hf => (hf.block b hb.lt (by simp)).trans hb
  refine calls_sm (cx 18 [] [] w) (vals := [.raw (.slice (some ⟨b, 0, none⟩) 2 2)]) mixed Try.func27 rfl rfl rfl hI rfl (st rfl ?_); conv => arg 3; whnf
  refine gw ?_
  refine n_loop (σ := Nat) (fun i => [(0, .raw (.slice (some ⟨b, 0, none⟩) 2 2)), (3, .int .i64 0), (6, .raw (.slice (some ⟨b, 0, none⟩) 2 2)), (7, .int .i64 2), (8, .int .i64 (i : Nat))]) (fun _ => []) (fun i => i ≤ 2 ∧ (1 ≤ i → x = 0) ∧ (2 ≤ i → y = 0)) (fun i => 2 - i) 0 mixed ⟨by omega, by omega, by omega⟩ (fun _ _ => rfl) rfl (by (repeat (first | exact trivial | refine ⟨⟨rfl, rfl⟩, ?_⟩))) (fun s _ => ⟨by (repeat (first | exact trivial | refine ⟨⟨_, rfl⟩, ?_⟩)), by (repeat (first | exact trivial | refine ⟨⟨_, rfl⟩, ?_⟩))⟩) fun i hJ => ?_
  obtain ⟨hi, hJ1, hJ2⟩ := hJ
  (refine gs ?_)
  by_cases hlt : i < 2
  · have ei : IntKind.i64.wrap ((i : Int) + 1) = ((i + 1 : Nat) : Int) := by rw [w64 (by omega) (by omega)]; simp
    have hlt' : (i : Int) < 2 := by omega
    by_cases h0 : i = 0
    · subst h0
      (repeat ((first | refine n_must rfl ?_ | refine n_chk (drawF_ok (by decide +kernel)) ?_ | refine n_same rfl ?_ | ((first | refine n_must ?_ ?_ | refine n_brT ?_ ?_); (focus (first | (simp [hlt']; done) | (simp [hlt']; omega) | (simp only [hlt']; simp; done)))) | (refine n_brF ?_ ?_; (focus (first | (simp [hlt']; done) | (simp [hlt']; omega) | (simp only [hlt']; simp; done)))) | refine n_must (by (with_reducible refine and_shape ?_) <;> kernel_rfl) ?_); (refine gs ?_)))
      (refine n_ldA (.int .i64 x) rfl (by first | exact trivial | rfl) rfl (fun _ w1 _ hI1 => load_cell aggInt (blk_at (l := [Value.int .i64 x, .int .i64 y]) (h2 _ hI1.frm) (j := 0) rfl rfl)) ?_; (refine gs ?_))
      by_cases hx : x = 0
      · (repeat ((first | refine n_must rfl ?_ | refine n_chk (drawF_ok (by decide +kernel)) ?_ | refine n_same rfl ?_ | ((first | refine n_must ?_ ?_ | refine n_brT ?_ ?_); (focus (first | (simp [hx]; done) | (simp [hx]; omega) | (simp only [hx]; simp; done)))) | (refine n_brF ?_ ?_; (focus (first | (simp [hx]; done) | (simp [hx]; omega) | (simp only [hx]; simp; done)))) | refine n_must (by (with_reducible refine and_shape ?_) <;> kernel_rfl) ?_); (refine gs ?_)))
        exact n_again ⟨1, ⟨by omega, fun _ => hx, by omega⟩, by omega, (by (repeat (first | exact trivial | refine ⟨⟨rfl, rfl⟩, ?_⟩ | refine ⟨⟨rfl, congrArg (SV.int .i64) ei⟩, ?_⟩))), ⟨_, rfl⟩⟩
      · (repeat ((first | refine n_must rfl ?_ | refine n_chk (drawF_ok (by decide +kernel)) ?_ | refine n_same rfl ?_ | ((first | refine n_must ?_ ?_ | refine n_brT ?_ ?_); (focus (first | (simp [hx]; done) | (simp [hx]; omega) | (simp only [hx]; simp; done)))) | (refine n_brF ?_ ?_; (focus (first | (simp [hx]; done) | (simp [hx]; omega) | (simp only [hx]; simp; done)))) | refine n_must (by (with_reducible refine and_shape ?_) <;> kernel_rfl) ?_); (refine gs ?_)))
        refine n_leave ?_
        refine n_ret0 rfl rfl fun ids' w' hp hI' => ⟨ret_int ?_, hI'.frm⟩
        simp [orI2, hx]
    · obtain rfl : i = 1 := by omega
      have hx := hJ1 (by omega)
      (repeat ((first | refine n_must rfl ?_ | refine n_chk (drawF_ok (by decide +kernel)) ?_ | refine n_same rfl ?_ | ((first | refine n_must ?_ ?_ | refine n_brT ?_ ?_); (focus (first | (simp [hlt']; done) | (simp [hlt']; omega) | (simp only [hlt']; simp; done)))) | (refine n_brF ?_ ?_; (focus (first | (simp [hlt']; done) | (simp [hlt']; omega) | (simp only [hlt']; simp; done)))) | refine n_must (by (with_reducible refine and_shape ?_) <;> kernel_rfl) ?_); (refine gs ?_)))
      (refine n_ldA (.int .i64 y) rfl (by first | exact trivial | rfl) rfl (fun _ w1 _ hI1 => load_cell aggInt (blk_at (l := [Value.int .i64 x, .int .i64 y]) (h2 _ hI1.frm) (j := 1) rfl rfl)) ?_; (refine gs ?_))
      by_cases hy : y = 0
      · (repeat ((first | refine n_must rfl ?_ | refine n_chk (drawF_ok (by decide +kernel)) ?_ | refine n_same rfl ?_ | ((first | refine n_must ?_ ?_ | refine n_brT ?_ ?_); (focus (first | (simp [hy]; done) | (simp [hy]; omega) | (simp only [hy]; simp; done)))) | (refine n_brF ?_ ?_; (focus (first | (simp [hy]; done) | (simp [hy]; omega) | (simp only [hy]; simp; done)))) | refine n_must (by (with_reducible refine and_shape ?_) <;> kernel_rfl) ?_); (refine gs ?_)))
        exact n_again ⟨2, ⟨by omega, fun _ => hx, fun _ => hy⟩, by omega, (by (repeat (first | exact trivial | refine ⟨⟨rfl, rfl⟩, ?_⟩ | refine ⟨⟨rfl, congrArg (SV.int .i64) ei⟩, ?_⟩))), ⟨_, rfl⟩⟩
      · (repeat ((first | refine n_must rfl ?_ | refine n_chk (drawF_ok (by decide +kernel)) ?_ | refine n_same rfl ?_ | ((first | refine n_must ?_ ?_ | refine n_brT ?_ ?_); (focus (first | (simp [hy]; done) | (simp [hy]; omega) | (simp only [hy]; simp; done)))) | (refine n_brF ?_ ?_; (focus (first | (simp [hy]; done) | (simp [hy]; omega) | (simp only [hy]; simp; done)))) | refine n_must (by (with_reducible refine and_shape ?_) <;> kernel_rfl) ?_); (refine gs ?_)))
        refine n_leave ?_
        refine n_ret0 rfl rfl fun ids' w' hp hI' => ⟨ret_int ?_, hI'.frm⟩
        simp [orI2, hx]
  · obtain rfl : i = 2 := by omega
    refine gw ?_
    refine n_exit rfl ?_
    (refine gs ?_)
    refine gw ?_
    refine n_ret0 rfl rfl fun ids' w' hp hI' => ⟨ret_int ?_, hI'.frm⟩
    simp [orI2, hJ1 (by omega), hJ2 (by omega)]
theorem lst_ok (a b : Tm) (w : World) : Calls Try.prog 26 #[a.val, b.val] w fun e w' => e = .returned (.int .i64 (cmpT a b)) ∧ Frm [] w w' := by
  have hI := Inv.nil (P := Try.prog) (N := 17) (S := []) (os := [(1, .of [(0, []), (1, []), (2, []), (3, []), (5, []), (6, []), (7, []), (8, []), (4, [8, 6]), (9, []), (10, []), (11, []), (12, [])])]) w
  refine calls_sm (cx 17 [(1, .of [(0, []), (1, []), (2, []), (3, []), (5, []), (6, []), (7, []), (8, []), (4, [8, 6]), (9, []), (10, []), (11, []), (12, [])])] [] w) (vals := [.agg a.sv, .agg b.sv]) mixed Try.func26 rfl rfl rfl hI rfl (st rfl ?_); conv => arg 3; whnf
  refine gw ?_
  refine n_sameP (.int .i64 (cmpI a.due b.due)) rfl rfl rfl (fun _ w1 hp1 hI1 => cmp_ok _ _ w1) ?_; (refine gs ?_)
  refine gw ?_
  refine n_sameP (.int .i64 (cmpI a.num b.num)) rfl rfl rfl (fun _ w1 hp1 hI1 => cmp_ok _ _ w1) ?_; (refine gs ?_)
  refine gw ?_
  refine n_buildN rfl rfl (show sliceElem Try.prog 40 = _ from elemInt) rfl rfl rfl rfl rfl rfl rfl rfl ?_
  (refine gs ?_)
  refine gw ?_
  refine n_call3 rfl fun b0 b1 b2 => ?_
  refine n_sameP (.int .i64 (cmpT a b)) rfl rfl rfl (fun ids' w1 hp hI1 => ?_) ?_
  · obtain rfl := ext0 hp (by rw [hI1.len]; rfl)
    exact or_ok (hI1.at0 2 rfl rfl rfl)
  (refine gs ?_)
  refine gw ?_
  exact n_ret0 rfl rfl fun ids' w' hp hI' => ⟨rfl, hI'.frm⟩

/-! ### The sort -/
theorem cmp_lt (x y : Int) : cmpI x y < 0 ↔ x < y := by unfold cmpI; split <;> (try split) <;> omega
theorem cmp_zero (x y : Int) : cmpI x y = 0 ↔ x = y := by unfold cmpI; split <;> (try split) <;> omega
theorem cmpT_lt (a b : Tm) : cmpT a b < 0 ↔ Tm.lt a b := by
  unfold cmpT orI2 Tm.lt
  have h1 := cmp_lt a.due b.due
  have h2 := cmp_zero a.due b.due
  have h3 := cmp_lt a.num b.num
  split <;> omega
instance (a b : Tm) : Decidable (Tm.lt a b) := by unfold Tm.lt; infer_instance
theorem ltT (a b : Tm) : ltOf cmpT a b = decide (Tm.lt a b) := by unfold ltOf; exact decide_eq_decide.2 (cmpT_lt a b)
theorem swoT : SWO (ltOf cmpT) where
  irrefl x := by
    rw [ltT]
    refine decide_eq_false ?_
    unfold Tm.lt; omega
  trans x y z h1 h2 := by
    rw [ltT] at h1 h2 ⊢
    have h1 := of_decide_eq_true h1
    have h2 := of_decide_eq_true h2
    refine decide_eq_true ?_
    unfold Tm.lt at *; omega
  ntrans x y z h1 h2 := by
    rw [ltT] at h1 h2 ⊢
    have h1 := of_decide_eq_false h1
    have h2 := of_decide_eq_false h2
    refine decide_eq_false ?_
    unfold Tm.lt at *; omega
theorem laysT (g n : Nat) (w : World) : CmpLays Try.prog 26 #[] Tm.l 4 cmpT g 0 n w :=
  fun m os dk _ x y => (lst_ok x y _).mono fun e w' ⟨he, hf⟩ => ⟨he, frm_grow hf⟩
theorem sort_ok {g n cap : Nat} {L : List Tm} {w : World} (hl : L.length = n) (hn : n ≤ 1000000) (hnd : L.Pairwise fun a b => a.num ≠ b.num) (hR : (tRow (some ⟨g, 0, none⟩) n cap (tms L)).R w) :
    Calls Try.prog 25 #[.slice (some ⟨g, 0, none⟩) n cap, .func (.func 26) #[] #[]] w fun e w' => ∃ L' : List Tm, e = .returned (.tuple #[]) ∧ (L'.Perm L ∧ L'.Pairwise Tm.lt) ∧ Frm [g] w w' ∧ (tRow (some ⟨g, 0, none⟩) n cap (tms L')).R w' := by
  have eg : ∀ args w, (callFunc 26 args).run Try.prog w = .ok (.enter 26 args) w := enters_of Try.func26 (by kernel_rfl) rfl
  have hcon := AnyQ.slices_SortFunc sortTm 4 Try.isAgg54 Try.sizeOf54 Tm.l tm_len (fun x v hv => by simp at hv; rcases hv with rfl | rfl | rfl | rfl <;> rfl) cmpT swoT 26 #[] g 0 cap L.toArray w eg (laysT g L.toArray.size w) (row_holds hR) (rowRes_lt hR g (by simp [rowRes])) (by simp; omega)
  change Calls Try.prog 25 _ _ _ at hcon
  have hs : L.toArray.size = n := by simp [hl]
  rw [hs] at hcon
  refine hcon.mono ?_
  rintro e w' ⟨he, d', m, os, ⟨hp1, hp2, hp3⟩, hso, rfl⟩
  have hpl : d'.toList.Perm L := by
    have h1 : (d'.extract 0 n).toList = d'.toList := by rw [show n = d'.size by rw [hp1, hs], Array.extract_size]
    have h2 : (L.toArray.extract 0 n).toList = L := by rw [← hs, Array.extract_size]
    rw [h1, h2] at hp3
    exact hp3
  have hlen : d'.toList.length = L.length := hpl.length_eq
  have hnd' : d'.toList.Pairwise fun a b => a.num ≠ b.num := (hpl.pairwise_iff (fun h => Ne.symm h)).2 hnd
  obtain ⟨hf, hR'⟩ := sort_row (m := m) (os := os) hR hlen
  refine ⟨d'.toList, he, ⟨hpl, ?_⟩, hf, hR'⟩
  rw [List.pairwise_iff_getElem] at hnd' ⊢
  intro i j hi hj hij
  have h1 := hso i j (Nat.zero_le _) hij (by omega)
  have h2 := hnd' i j hi hj hij
  have e1 : d'[i]! = d'.toList[i] := by simp at hi; simp [hi]
  have e2 : d'[j]! = d'.toList[j] := by simp at hj; simp [hj]
  rw [e1, e2, ltT] at h1
  have h1 := of_decide_eq_false h1
  unfold Tm.lt at h1 ⊢
  omega
end Go.Proofs.Ytjmaddmklogchaa
