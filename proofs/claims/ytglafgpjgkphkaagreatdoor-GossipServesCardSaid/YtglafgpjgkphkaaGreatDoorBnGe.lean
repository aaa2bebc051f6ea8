/- Package gossip: Give; the document's New, Need, Lacks, clear. The plain law of gossip; a pair's state. -/
import Derived.Test.YtglafgpjgkphkaaGreatDoorGoC
import Derived.Test.YtglafgpjgkphkaaGreatDoorGoG
import Derived.Test.YtglafgpjgkphkaaGreatDoorBnVb
import Derived.Test.YtglafgpjgkphkaaGreatDoorGoD
import Derived.Test.YtglafgpjgkphkaaGreatDoorBnQ
namespace Go.Proofs.YtglafgpjgkphkaaGreatDoor
section
set_option maxRecDepth 100000
set_option linter.unusedSimpArgs false
set_option linter.unusedVariables false
set_option maxHeartbeats 8000000
open Go.RowKit

/-! ### Give -/
theorem give_le {x : Int} (hx : 0 ≤ x) (y : Int) : 0 ≤ giveF x y ∧ giveF x y ≤ x := by
  have hq : x.tdiv 2 = x / 2 := Int.tdiv_eq_ediv_of_nonneg hx
  unfold giveF
  rw [hq]; omega
theorem out_give {s : Led} (ok : s.ok) (x y : Int) : s.out (giveF s.d x) (giveF s.u y) = ({ s with d := s.d - giveF s.d x, u := s.u - giveF s.u y }, .ok) := by
  have h1 := give_le ok.d0 x
  have h2 := give_le ok.u0 y
  unfold Led.out
  rw [if_neg (by omega), if_neg (by omega), if_neg (by omega)]
def Led.give (s : Led) (x y : Int) : Led := { s with d := s.d - giveF s.d x, u := s.u - giveF s.u y }
theorem Led.ok.give {s : Led} (ok : s.ok) (x y : Int) : (s.give x y).ok := by
  have := Led.out_ok ok (giveF s.d x) (giveF s.u y)
  rw [out_give ok] at this
  exact this
theorem Give2_ok {b0 b : Nat} {w : World} {a0 a1 a2 : Addr} (hs : Sents b0 w a0 a1 a2) (hb0 : b0 ≤ b) (hB : b0 ≤ w.heap.size) (pg : Value) (s : Led) (ok : s.ok) (hb : Blk w b s.cells 80) (x y : Int) :
    Calls Tryz.prog 21 #[pg, pV b, rtV (x, y)] w fun e w' => e = .returned (rtV (giveF s.d x, giveF s.u y)) ∧ Frm [b] w w' ∧ Blk w' b (s.give x y).cells 80 := by
  have hI : Inv (cx 28 [(2, .then [(0, []), (1, []), (2, []), (3, []), (5, []), (6, []), (7, []), (8, [])] (.fork 4 [8, 6] (.then [] (.fork 9 [] (.of [(10, []), (11, []), (12, [])]) (.cons 11 [8, 6] (.of [(9, []), (10, []), (12, [])])))) (.cons 11 [8, 6, 3, 1] (.of [(4, [8, 6]), (9, []), (10, []), (12, [])]))))] [b] w) w [b] [⟨80, s.sv, true⟩] := (Inv.nil w).cons (by simp) rfl hb (by simp)
  have hd : 0 ≤ s.d ∧ s.d ≤ 1099511627776 := by have := ok.d0; have := ok.u0; have := ok.h0; have := ok.sum; have := ok.cap; omega
  have hu : 0 ≤ s.u ∧ s.u ≤ 1099511627776 := by have := ok.d0; have := ok.u0; have := ok.h0; have := ok.sum; have := ok.cap; omega
  have hout := out_give ok x y
  refine calls_sm (cx 28 [(2, .then [(0, []), (1, []), (2, []), (3, []), (5, []), (6, []), (7, []), (8, [])] (.fork 4 [8, 6] (.then [] (.fork 9 [] (.of [(10, []), (11, []), (12, [])]) (.cons 11 [8, 6] (.of [(9, []), (10, []), (12, [])])))) (.cons 11 [8, 6, 3, 1] (.of [(4, [8, 6]), (9, []), (10, []), (12, [])]))))] [b] w) (vals := [.raw pg, .ptr 0 0, .agg [.int .i64 x, .int .i64 y]]) mixed Tryz.func21 rfl rfl rfl hI rfl (st rfl ?_); conv => arg 3; whnf
  refine gg ?_
  refine n_sameP ((.agg [.int .i64 s.d, .int .i64 s.u])) rfl rfl rfl (fun _ w1 hp1 hI1 => Rights_ok s (hI1.blk_at hp1 0 rfl rfl rfl)) ?_; (refine gs ?_)
  refine gg ?_
  refine n_both ?_ ?_
  · (refine gs ?_)
    refine n_sameP (.int .i64 (giveF s.d x)) rfl rfl rfl (fun _ w1 hp1 hI1 => Give_ok s.d x hd w1) ?_; (refine gs ?_)
    refine gg ?_
    refine n_both ?_ ?_
    · (refine gs ?_)
      refine n_sameP (.int .i64 (giveF s.u y)) rfl rfl rfl (fun _ w1 hp1 hI1 => Give_ok s.u y hu w1) ?_; (refine gs ?_)
      refine gg ?_
      refine n_updP 0 (.int .i64 (s.out (giveF s.d x) (giveF s.u y)).2.num) (s.out (giveF s.d x) (giveF s.u y)).1.sv rfl rfl rfl rfl rfl rfl rfl (fun _ w1 hp1 hI1 => Out_ok (hs.frm hI1.frm (by simpa using hb0) hB) hb0 (Nat.le_trans hB hI1.frm.size) s ok (hI1.blk_at hp1 0 rfl rfl rfl) (giveF s.d x) (giveF s.u y)) ?_
      rw [hout]
      (refine gs ?_)
      (repeat ((first | refine n_must rfl ?_ | refine n_chk (drawF_ok (by decide +kernel)) ?_ | refine n_same rfl ?_ | ((first | refine n_must ?_ ?_ | refine n_brT ?_ ?_); (focus (first | (simp [LErr.num]; done) | (simp [LErr.num]; omega) | (simp only [LErr.num]; simp; done)))) | (refine n_brF ?_ ?_; (focus (first | (simp [LErr.num]; done) | (simp [LErr.num]; omega) | (simp only [LErr.num]; simp; done)))) | refine n_must (by (with_reducible refine and_shape ?_) <;> kernel_rfl) ?_); (refine gs ?_)))
      exact n_ret0 rfl rfl fun ids' w' hp hI' => ⟨rfl, hI'.frm, hI'.blk_at hp 0 rfl rfl rfl⟩
    · (refine gs ?_)
      refine gg ?_
      refine n_sameP (.int .i64 (giveF s.u y)) rfl rfl rfl (fun _ w1 hp1 hI1 => Give_ok s.u y hu w1) ?_; (refine gs ?_)
      refine gg ?_
      refine n_updP 0 (.int .i64 (s.out (giveF s.d x) (giveF s.u y)).2.num) (s.out (giveF s.d x) (giveF s.u y)).1.sv rfl rfl rfl rfl rfl rfl rfl (fun _ w1 hp1 hI1 => Out_ok (hs.frm hI1.frm (by simpa using hb0) hB) hb0 (Nat.le_trans hB hI1.frm.size) s ok (hI1.blk_at hp1 0 rfl rfl rfl) (giveF s.d x) (giveF s.u y)) ?_
      rw [hout]
      (refine gs ?_)
      (repeat ((first | refine n_must rfl ?_ | refine n_chk (drawF_ok (by decide +kernel)) ?_ | refine n_same rfl ?_ | ((first | refine n_must ?_ ?_ | refine n_brT ?_ ?_); (focus (first | (simp [LErr.num]; done) | (simp [LErr.num]; omega) | (simp only [LErr.num]; simp; done)))) | (refine n_brF ?_ ?_; (focus (first | (simp [LErr.num]; done) | (simp [LErr.num]; omega) | (simp only [LErr.num]; simp; done)))) | refine n_must (by (with_reducible refine and_shape ?_) <;> kernel_rfl) ?_); (refine gs ?_)))
      exact n_ret0 rfl rfl fun ids' w' hp hI' => ⟨rfl, hI'.frm, hI'.blk_at hp 0 rfl rfl rfl⟩
  · (refine gs ?_)
    refine gg ?_
    refine n_sameP (.int .i64 (giveF s.d x)) rfl rfl rfl (fun _ w1 hp1 hI1 => Give_ok s.d x hd w1) ?_; (refine gs ?_)
    refine gg ?_
    refine n_sameP (.int .i64 (giveF s.u y)) rfl rfl rfl (fun _ w1 hp1 hI1 => Give_ok s.u y hu w1) ?_; (refine gs ?_)
    refine gg ?_
    refine n_updP 0 (.int .i64 (s.out (giveF s.d x) (giveF s.u y)).2.num) (s.out (giveF s.d x) (giveF s.u y)).1.sv rfl rfl rfl rfl rfl rfl rfl (fun _ w1 hp1 hI1 => Out_ok (hs.frm hI1.frm (by simpa using hb0) hB) hb0 (Nat.le_trans hB hI1.frm.size) s ok (hI1.blk_at hp1 0 rfl rfl rfl) (giveF s.d x) (giveF s.u y)) ?_
    rw [hout]
    (refine gs ?_)
    (repeat ((first | refine n_must rfl ?_ | refine n_chk (drawF_ok (by decide +kernel)) ?_ | refine n_same rfl ?_ | ((first | refine n_must ?_ ?_ | refine n_brT ?_ ?_); (focus (first | (simp [LErr.num]; done) | (simp [LErr.num]; omega) | (simp only [LErr.num]; simp; done)))) | (refine n_brF ?_ ?_; (focus (first | (simp [LErr.num]; done) | (simp [LErr.num]; omega) | (simp only [LErr.num]; simp; done)))) | refine n_must (by (with_reducible refine and_shape ?_) <;> kernel_rfl) ?_); (refine gs ?_)))
    exact n_ret0 rfl rfl fun ids' w' hp hI' => ⟨rfl, hI'.frm, hI'.blk_at hp 0 rfl rfl rfl⟩
theorem rGive2_ok {b : Nat} {w : World} (pg : Value) (s : Led) (ok : s.ok) (hb : Blk w b s.cells 118) (x y : Int) :
    Calls Tryz.prog 30 #[pg, pV b, rtV (x, y)] w fun e w' => e = .returned (rtV (giveF s.d x, giveF s.u y)) ∧ Frm [b] w w' ∧ Blk w' b (s.give x y).cells 118 := by
  have hI : Inv (cx 26 [(2, .then [(0, []), (1, []), (2, []), (3, []), (5, []), (6, []), (7, []), (8, [])] (.fork 4 [8, 6] (.then [] (.fork 9 [] (.of [(10, []), (11, []), (12, [])]) (.cons 11 [8, 6] (.of [(9, []), (10, []), (12, [])])))) (.cons 11 [8, 6, 3, 1] (.of [(4, [8, 6]), (9, []), (10, []), (12, [])]))))] [b] w) w [b] [⟨118, s.sv, true⟩] := (Inv.nil w).cons (by simp) rfl hb (by simp)
  have hd : 0 ≤ s.d ∧ s.d ≤ 1099511627776 := by have := ok.d0; have := ok.u0; have := ok.h0; have := ok.sum; have := ok.cap; omega
  have hu : 0 ≤ s.u ∧ s.u ≤ 1099511627776 := by have := ok.d0; have := ok.u0; have := ok.h0; have := ok.sum; have := ok.cap; omega
  have hout := out_give ok x y
  refine calls_sm (cx 26 [(2, .then [(0, []), (1, []), (2, []), (3, []), (5, []), (6, []), (7, []), (8, [])] (.fork 4 [8, 6] (.then [] (.fork 9 [] (.of [(10, []), (11, []), (12, [])]) (.cons 11 [8, 6] (.of [(9, []), (10, []), (12, [])])))) (.cons 11 [8, 6, 3, 1] (.of [(4, [8, 6]), (9, []), (10, []), (12, [])]))))] [b] w) (vals := [.raw pg, .ptr 0 0, .agg [.int .i64 x, .int .i64 y]]) mixed Tryz.func30 rfl rfl rfl hI rfl (st rfl ?_); conv => arg 3; whnf
  refine gg ?_
  refine n_sameP ((.agg [.int .i64 s.d, .int .i64 s.u])) rfl rfl rfl (fun _ w1 hp1 hI1 => rRights_ok s (hI1.blk_at hp1 0 rfl rfl rfl)) ?_; (refine gs ?_)
  refine gg ?_
  refine n_both ?_ ?_
  · (refine gs ?_)
    refine n_sameP (.int .i64 (giveF s.d x)) rfl rfl rfl (fun _ w1 hp1 hI1 => rGive_ok s.d x hd w1) ?_; (refine gs ?_)
    refine gg ?_
    refine n_both ?_ ?_
    · (refine gs ?_)
      refine n_sameP (.int .i64 (giveF s.u y)) rfl rfl rfl (fun _ w1 hp1 hI1 => rGive_ok s.u y hu w1) ?_; (refine gs ?_)
      refine gg ?_
      refine n_updP 0 (.int .i64 (s.out (giveF s.d x) (giveF s.u y)).2.num) (s.out (giveF s.d x) (giveF s.u y)).1.sv rfl rfl rfl rfl rfl rfl rfl (fun _ w1 hp1 hI1 => rOut_ok s ok (hI1.blk_at hp1 0 rfl rfl rfl) (giveF s.d x) (giveF s.u y)) ?_
      rw [hout]
      (refine gs ?_)
      (repeat ((first | refine n_must rfl ?_ | refine n_chk (drawF_ok (by decide +kernel)) ?_ | refine n_same rfl ?_ | ((first | refine n_must ?_ ?_ | refine n_brT ?_ ?_); (focus (first | (simp [LErr.num]; done) | (simp [LErr.num]; omega) | (simp only [LErr.num]; simp; done)))) | (refine n_brF ?_ ?_; (focus (first | (simp [LErr.num]; done) | (simp [LErr.num]; omega) | (simp only [LErr.num]; simp; done)))) | refine n_must (by (with_reducible refine and_shape ?_) <;> kernel_rfl) ?_); (refine gs ?_)))
      exact n_ret0 rfl rfl fun ids' w' hp hI' => ⟨rfl, hI'.frm, hI'.blk_at hp 0 rfl rfl rfl⟩
    · (refine gs ?_)
      refine gg ?_
      refine n_sameP (.int .i64 (giveF s.u y)) rfl rfl rfl (fun _ w1 hp1 hI1 => rGive_ok s.u y hu w1) ?_; (refine gs ?_)
      refine gg ?_
      refine n_updP 0 (.int .i64 (s.out (giveF s.d x) (giveF s.u y)).2.num) (s.out (giveF s.d x) (giveF s.u y)).1.sv rfl rfl rfl rfl rfl rfl rfl (fun _ w1 hp1 hI1 => rOut_ok s ok (hI1.blk_at hp1 0 rfl rfl rfl) (giveF s.d x) (giveF s.u y)) ?_
      rw [hout]
      (refine gs ?_)
      (repeat ((first | refine n_must rfl ?_ | refine n_chk (drawF_ok (by decide +kernel)) ?_ | refine n_same rfl ?_ | ((first | refine n_must ?_ ?_ | refine n_brT ?_ ?_); (focus (first | (simp [LErr.num]; done) | (simp [LErr.num]; omega) | (simp only [LErr.num]; simp; done)))) | (refine n_brF ?_ ?_; (focus (first | (simp [LErr.num]; done) | (simp [LErr.num]; omega) | (simp only [LErr.num]; simp; done)))) | refine n_must (by (with_reducible refine and_shape ?_) <;> kernel_rfl) ?_); (refine gs ?_)))
      exact n_ret0 rfl rfl fun ids' w' hp hI' => ⟨rfl, hI'.frm, hI'.blk_at hp 0 rfl rfl rfl⟩
  · (refine gs ?_)
    refine gg ?_
    refine n_sameP (.int .i64 (giveF s.d x)) rfl rfl rfl (fun _ w1 hp1 hI1 => rGive_ok s.d x hd w1) ?_; (refine gs ?_)
    refine gg ?_
    refine n_sameP (.int .i64 (giveF s.u y)) rfl rfl rfl (fun _ w1 hp1 hI1 => rGive_ok s.u y hu w1) ?_; (refine gs ?_)
    refine gg ?_
    refine n_updP 0 (.int .i64 (s.out (giveF s.d x) (giveF s.u y)).2.num) (s.out (giveF s.d x) (giveF s.u y)).1.sv rfl rfl rfl rfl rfl rfl rfl (fun _ w1 hp1 hI1 => rOut_ok s ok (hI1.blk_at hp1 0 rfl rfl rfl) (giveF s.d x) (giveF s.u y)) ?_
    rw [hout]
    (refine gs ?_)
    (repeat ((first | refine n_must rfl ?_ | refine n_chk (drawF_ok (by decide +kernel)) ?_ | refine n_same rfl ?_ | ((first | refine n_must ?_ ?_ | refine n_brT ?_ ?_); (focus (first | (simp [LErr.num]; done) | (simp [LErr.num]; omega) | (simp only [LErr.num]; simp; done)))) | (refine n_brF ?_ ?_; (focus (first | (simp [LErr.num]; done) | (simp [LErr.num]; omega) | (simp only [LErr.num]; simp; done)))) | refine n_must (by (with_reducible refine and_shape ?_) <;> kernel_rfl) ?_); (refine gs ?_)))
    exact n_ret0 rfl rfl fun ids' w' hp hI' => ⟨rfl, hI'.frm, hI'.blk_at hp 0 rfl rfl rfl⟩
end
section
set_option maxRecDepth 100000
set_option linter.unusedSimpArgs false
set_option linter.unusedVariables false
set_option maxHeartbeats 4000000
open Go.RowKit

theorem mget_del {κ ν : Type} [DecidableEq κ] (x y : κ) : ∀ {m : List (κ × ν)} (_ : (m.map (·.1)).Nodup), mget (mdel m x) y = if x = y then none else mget m y
  | [], _ => by simp [mdel, mget]
  | p :: r, hn => by
    have hn' := List.nodup_cons.1 (by simpa using hn : (p.1 :: r.map (·.1)).Nodup)
    by_cases hp : p.1 = x
    · simp only [mdel, if_pos hp]
      by_cases hxy : x = y
      · rw [if_pos hxy]
        cases hq : mget r y with
        | none => rfl
        | some z => exact absurd (List.mem_map.2 ⟨_, mget_some hq, by rw [hp, hxy]⟩) hn'.1
      · rw [if_neg hxy]
        simp [mget, hp, hxy]
    · simp only [mdel, if_neg hp]
      have ih := mget_del x y hn'.2
      by_cases hpy : p.1 = y
      · have : ¬ x = y := fun e => hp (hpy.trans e.symm)
        simp [mget, hpy, this]
      · simp only [mget, if_neg hpy, ih]
structure GRel (s : Gs) (r : Rg) : Prop where
  me : s.me = r.me
  n : s.n = r.n
  lack : ∀ nm, s.lack nm = lackR r.All nm
theorem lackR_app (All : List En) (e : En) (nm : ByteArray) : lackR (All ++ [e]) nm = lackS nm (lackR All nm) e := by unfold lackR; simp
theorem lackR_clear (All : List En) (nm nm' : ByteArray) : lackR (All.map (clr nm)) nm' = if nm = nm' then (0, 0) else lackR All nm' := by
  unfold lackR
  have key : ∀ (l : List En) (a b : Int × Int), (nm = nm' → a = (0, 0)) → (nm ≠ nm' → a = b) → (l.map (clr nm)).foldl (lackS nm') a = if nm = nm' then (0, 0) else l.foldl (lackS nm') b := by
    intro l
    induction l with
    | nil => intro a b h1 h2; by_cases h : nm = nm' <;> simp [h, h1, h2]
    | cons e l ih =>
      intro a b h1 h2
      simp only [List.map_cons, List.foldl_cons]
      refine ih _ _ (fun h => ?_) (fun h => ?_)
      · have := h1 h
        unfold lackS clr
        by_cases he : e.nm = nm
        · rw [if_pos he, if_neg (by simp)]; exact this
        · rw [if_neg he, if_neg (fun q => he (q.1.trans h.symm))]; exact this
      · have := h2 h
        subst this
        unfold lackS clr
        by_cases he : e.nm = nm
        · rw [if_pos he, if_neg (fun q => h (he.symm.trans q.1)), if_neg (fun q => h (he.symm.trans q.1))]
        · rw [if_neg he]
  exact key All _ _ (fun _ => rfl) (fun _ => rfl)
theorem need_like {s : Gs} {r : Rg} (h : GRel s r) (nm : ByteArray) (d u : Int) : GRel (s.need nm d u) (r.need nm d u) := by
  unfold Gs.need Rg.need
  by_cases hc : min d u < 0 ∨ 1099511627776 < max d u
  · rw [if_pos hc, if_neg (by omega)]; exact h
  · rw [if_neg hc, if_pos (by omega)]
    refine ⟨h.me, h.n, fun nm' => ?_⟩
    rw [lackR_app]
    have hl := h.lack
    unfold Gs.lack at hl ⊢
    dsimp only
    rw [mget_put]
    unfold lackS
    dsimp only
    by_cases e : nm = nm'
    · subst e
      rw [if_pos rfl, if_pos ⟨rfl, rfl⟩, ← hl nm]; rfl
    · rw [if_neg e, if_neg (fun q => e q.1)]; exact hl nm'
theorem tick_like {s : Gs} {r : Rg} (h : GRel s r) (hnd : (s.m.map (·.1)).Nodup) (nm : ByteArray) (d u : Int) (K : List (Int × Int)) : (s.tick nm d u K).2 = (r.tick nm d u K).2 ∧ GRel (s.tick nm d u K).1 (r.tick nm d u K).1 := by
  have hcl : GRel { s with m := mdel s.m nm } (r.clear nm) := by
    refine ⟨h.me, h.n, fun nm' => ?_⟩
    unfold Rg.clear
    dsimp only
    rw [lackR_clear, ← h.lack]
    unfold Gs.lack
    dsimp only
    rw [mget_del _ _ hnd]
    by_cases e : nm = nm' <;> simp [e]
  unfold Gs.tick Rg.tick tickW tickWR
  rw [h.me] at hcl
  rw [h.lack, h.me]
  split
  · exact ⟨rfl, hcl⟩
  · split
    · exact ⟨rfl, h⟩
    · exact ⟨rfl, hcl⟩

/-! ### A pair -/
structure PS where
  ver : Int
  G : Gs
  l : Led
  V : Vs
  RG : Rg
  RV : Rv
structure PA where
  p : Nat
  pg : Nat
  mg : Nat
  pl : Nat
  pv : Nat
  mv : Nat
  nv : Nat
  prg : Nat
  prl : Nat
  prv : Nat
structure PO where
  oG : Option Addr
  cG : Nat
  oV : Option Addr
  cV : Nat
abbrev pairIds (A : PA) : List Nat := [A.p, 0, A.pl, 0, 0, A.prl, 0]
abbrev pairMem (A : PA) (O : PO) (S : PS) : Mem := [⟨56, [.int .i64 S.G.me, .int .i64 S.G.n, .int .i64 S.ver, .raw (pV A.pg), .raw (pV A.pl), .raw (pV A.pv), .raw (pV A.prg), .raw (pV A.prl), .raw (pV A.prv)], true⟩,
  ⟨71, [.res (gossRes A.pg A.mg S.G)], true⟩, ⟨80, S.l.sv, true⟩, ⟨97, [.res (viewsRes A.pv A.mv A.nv S.V)], true⟩,
  ⟨115, [.res (rgRes A.prg O.oG O.cG S.RG)], true⟩, ⟨118, S.l.sv, true⟩, ⟨121, [.res (rvRes A.prv O.oV O.cV S.RV)], true⟩]
def pairRes (A : PA) (O : PO) (S : PS) : Res := memRes (pairIds A) (pairMem A O S)
structure PS.ok (S : PS) (n K : Nat) : Prop where
  l : S.l.ok
  g : GRel S.G S.RG
  v : VRel S.V S.RV n
  gme : S.G.me = S.V.me
  gn : S.G.n = n
  n2 : 2 ≤ n
  n16 : n ≤ 16
  ga : S.RG.All.length ≤ K
  va : S.RV.All.length ≤ K
  ver : 0 ≤ S.ver ∧ S.ver ≤ K
theorem pair_sel {A : PA} {O : PO} {S : PS} {junk : Mem} {ids' : List Nat} (hp : pairIds A <+: ids') : Sel true ids' (pairMem A O S ++ junk) [0, 1, 2, 3, 4, 5, 6] (pairIds A) (pairMem A O S) :=
  .blk rfl (pre_at hp rfl) rfl rfl (.res rfl (.blk rfl (pre_at hp rfl) rfl rfl (.res rfl (.res rfl (.blk rfl (pre_at hp rfl) rfl rfl (.res rfl .nil))))))
/-- What is left of a pair behind a call. -/
theorem pair_post {c : Ctx} {w w' : World} {ids' : List Nat} {A : PA} {O O' : PO} {S S' : PS} {junk : Mem} (hI : Inv c w' ids' (pairMem A O' S' ++ junk)) (hS : c.S = (pairRes A O S).fp) (hw : c.w0 = w) (hp : pairIds A <+: ids') : Post (pairRes A O S) (pairRes A O' S') w w' := by
  subst hw
  exact post_shut hI hS [0, 1, 2, 3, 4, 5, 6] (pair_sel hp) (by decide)

/-! ### within, same -/
def withinF (x lo hi : Int) : Int := lo + (if x < 0 then -(x + 1) else x).tmod (hi - lo + 1)
theorem within_le {x lo hi : Int} (h : lo ≤ hi) : lo ≤ withinF x lo hi ∧ withinF x lo hi ≤ hi := by
  unfold withinF
  generalize hy : (if x < 0 then -(x + 1) else x) = y
  have hy0 : 0 ≤ y := by rw [← hy]; split <;> omega
  have h1 : y.tmod (hi - lo + 1) = y % (hi - lo + 1) := Int.tmod_eq_emod_of_nonneg hy0
  have h2 := Int.emod_nonneg y (show hi - lo + 1 ≠ 0 by omega)
  have h3 := Int.emod_lt_of_pos y (show 0 < hi - lo + 1 by omega)
  rw [h1]; omega
theorem within_ok (x lo hi : Int) (hx : i64 x) (hlo : 0 ≤ lo) (hle : lo ≤ hi) (hhi : hi ≤ 4611686018427387904) (w : World) :
    Calls Tryz.prog 6 #[.int .i64 x, .int .i64 lo, .int .i64 hi] w fun e w' => e = .returned (.int .i64 (withinF x lo hi)) ∧ Frm [] w w' := by
  have hI := Inv.nil (P := Tryz.prog) (N := 20) (S := []) (os := []) w
  have e1 : IntKind.i64.wrap (IntKind.i64.wrap (hi - lo) + 1) = hi - lo + 1 := by rw [w64 (n := hi - lo) (by omega) (by omega), w64 (by omega) (by omega)]
  have hb := within_le (x := x) hle
  refine calls_sm (cx 20 [] [] w) (vals := [.int .i64 x, .int .i64 lo, .int .i64 hi]) mixed Tryz.func6 rfl rfl rfl hI rfl (st rfl ?_); conv => arg 3; whnf
  (repeat (first | ((first | refine n_must rfl ?_ | refine n_chk (drawF_ok (by decide +kernel)) ?_ | refine n_same rfl ?_); (refine gs ?_))))
  refine n_br (fun h1 => ?_) (fun h1 => ?_) <;> simp at h1 <;> (refine gs ?_)
  · have e2 : IntKind.i64.wrap (0 - IntKind.i64.wrap (x + 1)) = -(x + 1) := by rw [w64 (n := x + 1) (by omega) (by omega), w64 (by omega) (by omega)]; omega
    refine n_must (by simp only [e1]; simp; omega) ?_
    (refine gs ?_)
    (repeat (first | ((first | refine n_must rfl ?_ | refine n_chk (drawF_ok (by decide +kernel)) ?_ | refine n_same rfl ?_); (refine gs ?_))))
    refine n_ret0 rfl rfl fun ids' w' hp hI' => ⟨ret_int ?_, hI'.frm⟩
    have : withinF x lo hi = lo + (-(x + 1)).tmod (hi - lo + 1) := by unfold withinF; rw [if_pos h1]
    rw [e1, e2, ← this]; exact w64 (by omega) (by omega)
  · refine n_must (by simp only [e1]; simp; omega) ?_
    (refine gs ?_)
    (repeat (first | ((first | refine n_must rfl ?_ | refine n_chk (drawF_ok (by decide +kernel)) ?_ | refine n_same rfl ?_); (refine gs ?_))))
    refine n_ret0 rfl rfl fun ids' w' hp hI' => ⟨ret_int ?_, hI'.frm⟩
    have : withinF x lo hi = lo + x.tmod (hi - lo + 1) := by unfold withinF; rw [if_neg (by omega)]
    rw [e1, ← this]; exact w64 (by omega) (by omega)

theorem same_ok (x y : Int × Int) (w : World) : Calls Tryz.prog 15 #[rtV x, rtV y] w fun e w' => e = .returned (.bool (decide (x = y))) ∧ Frm [] w w' := by
  have hI := Inv.nil (P := Tryz.prog) (N := 17) (S := []) (os := []) w
  obtain ⟨x1, x2⟩ := x
  obtain ⟨y1, y2⟩ := y
  refine calls_sm (cx 17 [] [] w) (vals := [.agg [.int .i64 x1, .int .i64 x2], .agg [.int .i64 y1, .int .i64 y2]]) mixed Tryz.func15 rfl rfl rfl hI rfl (st rfl ?_); conv => arg 3; whnf
  refine gg ?_
  by_cases h1 : x1 = y1
  · (repeat ((first | refine n_must rfl ?_ | refine n_chk (drawF_ok (by decide +kernel)) ?_ | refine n_same rfl ?_ | ((first | refine n_must ?_ ?_ | refine n_brT ?_ ?_); (focus (first | (simp [h1]; done) | (simp [h1]; omega) | (simp only [h1]; simp; done)))) | (refine n_brF ?_ ?_; (focus (first | (simp [h1]; done) | (simp [h1]; omega) | (simp only [h1]; simp; done)))) | refine n_must (by (with_reducible refine and_shape ?_) <;> kernel_rfl) ?_); (refine gs ?_)))
    refine n_ret0 rfl rfl fun ids' w' hp hI' => ⟨ret_bool ?_, hI'.frm⟩
    rw [Bool.eq_iff_iff]; simp [h1]
  · (repeat ((first | refine n_must rfl ?_ | refine n_chk (drawF_ok (by decide +kernel)) ?_ | refine n_same rfl ?_ | ((first | refine n_must ?_ ?_ | refine n_brT ?_ ?_); (focus (first | (simp [h1]; done) | (simp [h1]; omega) | (simp only [h1]; simp; done)))) | (refine n_brF ?_ ?_; (focus (first | (simp [h1]; done) | (simp [h1]; omega) | (simp only [h1]; simp; done)))) | refine n_must (by (with_reducible refine and_shape ?_) <;> kernel_rfl) ?_); (refine gs ?_)))
    refine n_ret0 rfl rfl fun ids' w' hp hI' => ⟨ret_bool ?_, hI'.frm⟩
    simp [h1]
end
end Go.Proofs.YtglafgpjgkphkaaGreatDoor
