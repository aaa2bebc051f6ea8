/- Package wheel: List. -/
import Derived.Test.YtjmaddmklogchaaWkI
import Derived.Shelf.SlSortCmp.NoneTotal
set_option maxRecDepth 100000
set_option linter.unusedSimpArgs false
set_option linter.unusedVariables false
set_option maxHeartbeats 8000000
namespace Go.Proofs.Ytjmaddmklogchaa
open Go.RowKit

/-- The slots joined. -/
def joinT (W : Wh) (i : Nat) : List Tm := (List.range i).flatMap W.L
theorem join_next (W : Wh) (i : Nat) : joinT W (i + 1) = joinT W i ++ W.L i := by unfold joinT; rw [List.range_succ, List.flatMap_append]; simp
theorem join_perm {W : Wh} {N : Nat} (hW : W.ok N) : (joinT W W.n).Perm W.s.A := slots_perm (by have := hW.n; omega) fun t ht => by have := hW.s.due t ht; have := hW.s.now; omega
theorem join_le {W : Wh} {N : Nat} (hW : W.ok N) {i : Nat} (hi : i ≤ W.n) : (joinT W i).length ≤ N := by
  have h1 := (join_perm hW).length_eq
  have h2 := hW.s.len
  have h3 : joinT W W.n = joinT W i ++ (List.range' i (W.n - i)).flatMap W.L := by
    unfold joinT
    rw [← List.flatMap_append]
    congr 1
    have := List.range'_append_1 (s := 0) (m := i) (n := W.n - i)
    rw [Nat.zero_add, show i + (W.n - i) = W.n by omega] at this
    rw [List.range_eq_range', List.range_eq_range', this]
  rw [h3, List.length_append] at h1
  omega
theorem wList_ok {p : Nat} {W : Wh} {N : Nat} {w : World} (hW : W.ok N) (hN : N ≤ 1000000) (hR : (whRes p W).R w) :
    Calls Try.prog 15 #[pV p] w fun e w' => ∃ y : Option Addr × Nat, e = .returned (.slice y.1 (listT W.s.A).length y.2) ∧ True ∧ FreshR w w' (tRow y.1 (listT W.s.A).length y.2 (tms (listT W.s.A))) := by
  obtain ⟨hn1, hn2⟩ := hW.n
  have hI : Inv (cx 26 [(2, .of [(0, []), (1, []), (2, []), (3, []), (4, []), (5, []), (6, []), (9, []), (7, []), (8, [])])] [] w) w [0, 0, 0] (ro (whMem p W)) := memRes_read hR
  obtain ⟨hlp, hls⟩ := listT_ok hW.s.up
  have hjp := join_perm hW
  have hjn := join_le hW (Nat.le_refl _)
  have hll : (listT W.s.A).length = (joinT W W.n).length := by rw [hlp.length_eq, hjp.length_eq]
  have hnd : (joinT W W.n).Pairwise fun a b => a.num ≠ b.num := (hjp.pairwise_iff (fun h => Ne.symm h)).2 (hW.s.up.imp fun h => by omega)
  obtain ⟨itt, hitt, hpt⟩ := Option.map_eq_some_iff.1 infoTm
  simp only [Prod.mk.injEq] at hpt
  refine calls_sm (cx 26 [(2, .of [(0, []), (1, []), (2, []), (3, []), (4, []), (5, []), (6, []), (9, []), (7, []), (8, [])])] [] w) (vals := [.raw (pV p)]) mixed Try.func15 rfl rfl rfl hI rfl (st rfl ?_); conv => arg 3; whnf
  refine gw ?_
  (refine n_ldA (.int .i64 W.n) rfl (by first | exact trivial | rfl) rfl (fun _ w1 _ hI1 => load_cell aggInt (wb_n (hI1.res 0 rfl rfl) rfl)) ?_; (refine gs ?_))
  refine gw ?_
  refine n_sliceArr (g := p) (n := W.n) (len := 64) rfl rfl (by kernel_rfl) sizeTms rfl rfl hn2 ?_
  (refine gs ?_)
  refine gw ?_
  refine n_loopX [0] ([⟨58, [.res (wbRes p W.cells)], false⟩, ⟨54, [.res (allRes W.rows)], false⟩, ⟨55, [.res (plRes W.mb W.m)], false⟩, ⟨54, [.res (tRow (((0, (none, 0)) : Nat × (Option Addr × Nat))).2.1 (joinT W (((0, (none, 0)) : Nat × (Option Addr × Nat))).1).length (((0, (none, 0)) : Nat × (Option Addr × Nat))).2.2 (tms (joinT W (((0, (none, 0)) : Nat × (Option Addr × Nat))).1)))], true⟩]) rfl (fun w1 hI1 => ?_) ?_
  · exact hI1.addR (Frm.refl [] w1) (tRow none 0 0 []) 54 true (rowRes_nil _ _ _) (by simp [rowRes]) (by simp [rowRes])
  refine n_loop (σ := Nat × (Option Addr × Nat)) (fun t => [(3, .raw (.slice t.2.1 (joinT W t.1).length t.2.2)), (13, .raw (.slice (some ⟨p, 0, none⟩) W.n 64)), (14, .int .i64 (W.n : Nat)), (15, .int .i64 (t.1 : Nat))]) (fun t => [⟨58, [.res (wbRes p W.cells)], false⟩, ⟨54, [.res (allRes W.rows)], false⟩, ⟨55, [.res (plRes W.mb W.m)], false⟩, ⟨54, [.res (tRow (t).2.1 (joinT W (t).1).length (t).2.2 (tms (joinT W (t).1)))], true⟩]) (fun t => t.1 ≤ W.n) (fun t => W.n - t.1) (0, (none, 0)) mixed (by dsimp only; omega) (fun _ _ => rfl) rfl (by (repeat (first | exact trivial | refine ⟨⟨rfl, rfl⟩, ?_⟩))) (fun s _ => ⟨by (repeat (first | exact trivial | refine ⟨⟨_, rfl⟩, ?_⟩)), by (repeat (first | exact trivial | refine ⟨⟨_, rfl⟩, ?_⟩))⟩) fun t ht => ?_
  obtain ⟨i, ⟨o, cap⟩⟩ := t
  dsimp only at ht ⊢
  (refine gs ?_)
  by_cases hil : i < W.n
  · have ei : IntKind.i64.wrap ((i : Int) + 1) = ((i + 1 : Nat) : Int) := by rw [w64 (by omega) (by omega)]; simp
    have hAi : W.rows[i]? = some (W.row i) := by rw [List.getElem?_map, List.getElem?_range (by omega)]; rfl
    have hle := join_le hW (i := i + 1) hil
    have hjx := join_next W i
    have hjl : (joinT W (i + 1)).length = (joinT W i).length + (W.L i).length := by rw [hjx, List.length_append]
    (repeat ((first | refine n_must rfl ?_ | refine n_chk (drawF_ok (by decide +kernel)) ?_ | refine n_same rfl ?_ | ((first | refine n_must ?_ ?_ | refine n_brT ?_ ?_); (focus (first | (simp [hil]; done) | (simp [hil]; omega) | (simp only [hil]; simp; done)))) | (refine n_brF ?_ ?_; (focus (first | (simp [hil]; done) | (simp [hil]; omega) | (simp only [hil]; simp; done)))) | refine n_must (by (with_reducible refine and_shape ?_) <;> kernel_rfl) ?_); (refine gs ?_)))
    (refine n_ldA (.raw (.slice (W.S i).1 (W.L i).length (W.S i).2)) rfl (by first | exact trivial | rfl) rfl (fun _ w1 _ hI1 => load_cell aggTms (wb_slot (hI1.res 0 rfl rfl) (by omega) (show (⟨p, 0, none⟩ : Addr).add ((i : Int).toNat * 1) = _ by rw [add_mk]; simp))) ?_; (refine gs ?_))
    refine gw ?_
    refine n_appendR (nv := tms (W.L i)) 3 rfl rfl elemTm hitt hpt.1 hpt.2.1 hpt.2.2 rfl (by omega) rfl rfl rfl (tms_len _) (fun _ w1 _ hI1 => rd_of_row (all_at (hI1.res 1 rfl rfl) hAi)) (tms_one _) (by omega) (by omega) (show tms (joinT W i) ++ tms (W.L i) = tms (joinT W (i + 1)) by rw [hjx, tms_app]) fun r => ?_
    (refine gs ?_)
    refine gw ?_
    refine n_again ⟨(i + 1, r), by dsimp only; omega, by dsimp only; omega, ?_, ?_⟩
    · dsimp only
      rw [hjl]
      exact (by (repeat (first | exact trivial | refine ⟨⟨rfl, rfl⟩, ?_⟩ | refine ⟨⟨rfl, congrArg (SV.int .i64) ei⟩, ?_⟩)))
    · dsimp only
      rw [hjl]
      exact ⟨_, rfl⟩
  · obtain rfl : i = W.n := by omega
    (repeat ((first | refine n_must rfl ?_ | refine n_chk (drawF_ok (by decide +kernel)) ?_ | refine n_same rfl ?_ | ((first | refine n_must ?_ ?_ | refine n_brT ?_ ?_); (focus (first | (simp [hil]; done) | (simp [hil]; omega) | (simp only [hil]; simp; done)))) | (refine n_brF ?_ ?_; (focus (first | (simp [hil]; done) | (simp [hil]; omega) | (simp only [hil]; simp; done)))) | refine n_must (by (with_reducible refine and_shape ?_) <;> kernel_rfl) ?_); (refine gs ?_)))
    refine n_exit rfl ?_
    (refine gs ?_)
    refine gw ?_
    have key : ∀ {L' : List Tm}, L'.Perm (joinT W W.n) → L'.Pairwise Tm.lt → L' = listT W.s.A := fun h1 h2 => lt_unique ((h1.trans hjp).trans hlp.symm) h2 hls
    by_cases h0 : (joinT W W.n).length = 0
    · have hj0 : joinT W W.n = [] := List.eq_nil_of_length_eq_zero h0
      have hL0 : listT W.s.A = [] := List.eq_nil_of_length_eq_zero (by rw [hll]; exact h0)
      rw [h0, hj0]
      refine n_sameP (.tup []) rfl rfl rfl (fun ids' w1 hp hI1 => (AnyF.slices_SortFunc_none sortTm o cap _ w1).mono fun e w' ⟨he, hw⟩ => ⟨he, by rw [hw]; exact Frm.refl _ _⟩) ?_
      (refine gs ?_)
      refine gw ?_
      refine n_ret0 rfl rfl fun ids' w' hp hI' => ⟨(o, cap), by rw [hL0]; rfl, trivial, ?_⟩
      rw [hL0]
      obtain ⟨f1, f2, f3, f4⟩ := post_res (ρ := Res.none) (ρ' := tRow o 0 cap (tms [])) hI' rfl 3 rfl rfl rfl
      exact ⟨f1, f2, fun x hx => (f3 x hx).resolve_left (by simp [Res.none]), f4⟩
    · refine n_callF (P := ∃ g, o = some ⟨g, 0, none⟩) (fun ids' w1 hp hI1 => rowRes_some' (hI1.res 3 rfl rfl) (by omega)) ?_
      rintro ⟨g, rfl⟩
      refine n_callR (Y := List Tm) 3 (fun L' => tRow (some ⟨g, 0, none⟩) (joinT W W.n).length cap (tms L')) (fun _ => .tup []) (fun _ => .tuple #[]) (fun L' => L'.Perm (joinT W W.n) ∧ L'.Pairwise Tm.lt) rfl rfl (fun _ => rfl) rfl rfl rfl (fun ids' w1 hp hI1 hR1 => (sort_ok rfl (by omega) hnd hR1).mono fun e w' ⟨L', he, hp, hf, hR'⟩ => ⟨L', he, hp, hf, hR', fun x hx => .inl (by simpa [rowRes] using hx), rowRes_lt hR'⟩) ?_
      rintro L' ⟨hp1, hp2⟩
      obtain rfl := key hp1 hp2
      (refine gs ?_)
      refine gw ?_
      refine n_ret0 rfl rfl fun ids' w' hp hI' => ⟨(some ⟨g, 0, none⟩, cap), by rw [hll], trivial, ?_⟩
      rw [hll]
      obtain ⟨f1, f2, f3, f4⟩ := post_res (ρ := Res.none) (ρ' := tRow (some ⟨g, 0, none⟩) (joinT W W.n).length cap (tms (listT W.s.A))) hI' rfl 3 rfl rfl rfl
      exact ⟨f1, f2, fun x hx => (f3 x hx).resolve_left (by simp [Res.none]), f4⟩
end Go.Proofs.Ytjmaddmklogchaa
