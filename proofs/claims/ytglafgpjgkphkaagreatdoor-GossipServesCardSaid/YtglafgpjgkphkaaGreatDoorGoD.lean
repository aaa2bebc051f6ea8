/- Package gossip: Tick, Give. -/
import Derived.Test.YtglafgpjgkphkaaGreatDoorGoG
set_option maxRecDepth 100000
set_option linter.unusedSimpArgs false
set_option linter.unusedVariables false
set_option maxHeartbeats 8000000
namespace Go.Proofs.YtglafgpjgkphkaaGreatDoor
open Go.RowKit

def tickW (s : Gs) (nm : ByteArray) (wd wu : Int) (K : List (Int × Int)) : Gs × Int × (Int × Int) × Bool :=
  if wd = 0 ∧ wu = 0 then ({ s with m := mdel s.m nm }, 0, (0, 0), false) else
  if toF s.me wd wu K < 0 then (s, 0, (0, 0), false) else ({ s with m := mdel s.m nm }, toF s.me wd wu K, (wd, wu), true)
def Gs.tick (s : Gs) (nm : ByteArray) (d u : Int) (K : List (Int × Int)) : Gs × Int × (Int × Int) × Bool :=
  tickW s nm (max 0 (IntKind.i64.wrap ((s.lack nm).1 - d))) (max 0 (IntKind.i64.wrap ((s.lack nm).2 - u))) K

theorem Tick_ok {p mb b pv mv nv : Nat} {s : Gs} {l : Led} {v : Vs} {w : World} (hR : (gossRes p mb s).R w) (hme : -10 ≤ s.me ∧ s.me ≤ 1000) (hb : Blk w b l.cells 80) (hV : (viewsRes pv mv nv v).R w) (hbp : b ∉ (gossRes p mb s).fp) (hbv : b ∉ (viewsRes pv mv nv v).fp) (hpv : ∀ x ∈ (gossRes p mb s).fp, x ∉ (viewsRes pv mv nv v).fp) (hl : v.ns.length ≤ 1000) (nm : ByteArray) (hnm : nm.size ≤ maxLen) :
    Calls Tryz.prog 14 #[pV p, .string nm, pV b, pV pv] w fun e w' => e = .returned (tickV (s.tick nm l.d l.u (knownL v.V nm v.ns.length)).2) ∧ Post (gossRes p mb s) (gossRes p mb (s.tick nm l.d l.u (knownL v.V nm v.ns.length)).1) w w' := by
  have hI : Inv (cx 75 [(1, .then [(0, []), (1, []), (2, []), (3, []), (4, []), (6, [])] (.fork 5 [] (.then [] (.fork 7 [] (.then [] (.fork 8 [] (.of [(9, []), (10, []), (11, [])]) (.cons 9 [] (.of [(8, []), (10, []), (11, [])])))) (.fork 8 [] (.then [] (.fork 7 [] (.of [(9, []), (10, []), (11, [])]) (.cons 9 [] (.of [(7, []), (10, []), (11, [])])))) (.cons 9 [] (.then [] (.fork 7 [] (.of [(8, []), (10, []), (11, [])]) (.cons 8 [] (.of [(7, []), (10, []), (11, [])])))))))) (.fork 7 [3] (.then [] (.fork 5 [] (.then [] (.fork 8 [] (.of [(9, []), (10, []), (11, [])]) (.cons 9 [] (.of [(8, []), (10, []), (11, [])])))) (.fork 8 [3] (.then [] (.fork 5 [] (.of [(9, []), (10, []), (11, [])]) (.cons 9 [3] (.of [(5, []), (10, []), (11, [])])))) (.cons 9 [3] (.then [] (.fork 5 [] (.of [(8, []), (10, []), (11, [])]) (.cons 8 [3] (.of [(5, []), (10, []), (11, [])])))))))) (.fork 8 [3] (.then [] (.fork 5 [] (.then [] (.fork 7 [] (.of [(9, []), (10, []), (11, [])]) (.cons 9 [] (.of [(7, []), (10, []), (11, [])])))) (.fork 7 [3] (.then [] (.fork 5 [] (.of [(9, []), (10, []), (11, [])]) (.cons 9 [3] (.of [(5, []), (10, []), (11, [])])))) (.cons 9 [3] (.then [] (.fork 5 [] (.of [(7, []), (10, []), (11, [])]) (.cons 7 [3] (.of [(5, []), (10, []), (11, [])])))))))) (.cons 9 [3] (.then [] (.fork 5 [] (.then [] (.fork 7 [] (.of [(8, []), (10, []), (11, [])]) (.cons 8 [] (.of [(7, []), (10, []), (11, [])])))) (.fork 7 [3] (.then [] (.fork 5 [] (.of [(8, []), (10, []), (11, [])]) (.cons 8 [3] (.of [(5, []), (10, []), (11, [])])))) (.cons 8 [3] (.then [] (.fork 5 [] (.of [(7, []), (10, []), (11, [])]) (.cons 7 [3] (.of [(5, []), (10, []), (11, [])])))))))))))))] (gossRes p mb s).fp w) w [0, b, 0] [⟨71, [.res (gossRes p mb s)], true⟩, ⟨80, l.sv, false⟩, ⟨97, [.res (viewsRes pv mv nv v)], false⟩] :=
    (((Inv.nil w).consR (by simp) hR (gossRes_lt hR) (by simp)).cons (by simpa using hbp) rfl hb (by simp)).consR (by intro x hx hm; simp at hm; rcases hm with hm | rfl; exact hpv x hm hx; exact hbv hx) hV (viewsRes_lt hV) (by simp)
  generalize hK : knownL v.V nm v.ns.length = K
  have hKl : K.length = v.ns.length := by rw [← hK]; simp [knownL]
  have htick : s.tick nm l.d l.u K = tickW s nm (max 0 (IntKind.i64.wrap ((s.lack nm).1 - l.d))) (max 0 (IntKind.i64.wrap ((s.lack nm).2 - l.u))) K := rfl
  generalize hlack : s.lack nm = lack at htick
  refine calls_sm (cx 75 [(1, .then [(0, []), (1, []), (2, []), (3, []), (4, []), (6, [])] (.fork 5 [] (.then [] (.fork 7 [] (.then [] (.fork 8 [] (.of [(9, []), (10, []), (11, [])]) (.cons 9 [] (.of [(8, []), (10, []), (11, [])])))) (.fork 8 [] (.then [] (.fork 7 [] (.of [(9, []), (10, []), (11, [])]) (.cons 9 [] (.of [(7, []), (10, []), (11, [])])))) (.cons 9 [] (.then [] (.fork 7 [] (.of [(8, []), (10, []), (11, [])]) (.cons 8 [] (.of [(7, []), (10, []), (11, [])])))))))) (.fork 7 [3] (.then [] (.fork 5 [] (.then [] (.fork 8 [] (.of [(9, []), (10, []), (11, [])]) (.cons 9 [] (.of [(8, []), (10, []), (11, [])])))) (.fork 8 [3] (.then [] (.fork 5 [] (.of [(9, []), (10, []), (11, [])]) (.cons 9 [3] (.of [(5, []), (10, []), (11, [])])))) (.cons 9 [3] (.then [] (.fork 5 [] (.of [(8, []), (10, []), (11, [])]) (.cons 8 [3] (.of [(5, []), (10, []), (11, [])])))))))) (.fork 8 [3] (.then [] (.fork 5 [] (.then [] (.fork 7 [] (.of [(9, []), (10, []), (11, [])]) (.cons 9 [] (.of [(7, []), (10, []), (11, [])])))) (.fork 7 [3] (.then [] (.fork 5 [] (.of [(9, []), (10, []), (11, [])]) (.cons 9 [3] (.of [(5, []), (10, []), (11, [])])))) (.cons 9 [3] (.then [] (.fork 5 [] (.of [(7, []), (10, []), (11, [])]) (.cons 7 [3] (.of [(5, []), (10, []), (11, [])])))))))) (.cons 9 [3] (.then [] (.fork 5 [] (.then [] (.fork 7 [] (.of [(8, []), (10, []), (11, [])]) (.cons 8 [] (.of [(7, []), (10, []), (11, [])])))) (.fork 7 [3] (.then [] (.fork 5 [] (.of [(8, []), (10, []), (11, [])]) (.cons 8 [3] (.of [(5, []), (10, []), (11, [])])))) (.cons 8 [3] (.then [] (.fork 5 [] (.of [(7, []), (10, []), (11, [])]) (.cons 7 [3] (.of [(5, []), (10, []), (11, [])])))))))))))))] (gossRes p mb s).fp w) (vals := [.raw (pV p), .str nm, .ptr 1 0, .raw (pV pv)]) mixed Tryz.func14 rfl rfl rfl hI rfl (st rfl ?_); conv => arg 3; whnf
  refine gg ?_
  refine n_ldDI (.raw (.map (some mb))) rfl rfl (fun _ w1 _ hI1 => load_cell aggGMap (blk_at (hI1.res 0 rfl rfl).1 (j := 2) rfl rfl)) ?_
  (refine gs ?_)
  repeat' (first | (refine n_must rfl ?_; (refine gs ?_)) | (refine n_chk (drawF_ok (by decide +kernel)) ?_; (refine gs ?_)) | (refine n_same rfl ?_; (refine gs ?_)) | (refine n_both ?_ ?_ <;> (refine gs ?_)) | (refine n_must (by (with_reducible refine and_shape ?_) <;> kernel_rfl) ?_; (refine gs ?_)) | (refine n_lookup (E := nmE) (ev' := rtV) (b := mb) (kr := .str nm) (zr := rtS (0, 0)) (z := rtV (0, 0)) s.m nm (rtS lack) nmK rfl rfl rfl rfl rfl rfl hnm rfl rfl (by rw [lkR, ← hlack]; rfl) (fun _ w1 _ hI1 => by exact (hI1.res 0 rfl rfl).2.1) ?_; (refine gs ?_)) | (refine n_sameP (.agg [.int .i64 l.d, .int .i64 l.u]) rfl rfl rfl (fun _ w1 hp1 hI1 => Rights_ok l (hI1.blk_at hp1 1 rfl rfl rfl)) ?_; (refine gs ?_)) | (refine n_ldRI (.raw (.map (some mb))) rfl (fun _ w1 _ hI1 => load_cell aggGMap (blk_at (hI1.res 0 rfl rfl).1 (j := 2) rfl rfl)) ?_; (refine gs ?_)))
  all_goals
    as_aux_lemma =>
      have hwd0 : 0 ≤ max 0 (IntKind.i64.wrap (lack.1 - l.d)) := by omega
      have hwu0 : 0 ≤ max 0 (IntKind.i64.wrap (lack.2 - l.u)) := by omega
      generalize max 0 (IntKind.i64.wrap (lack.1 - l.d)) = wd at htick hwd0 ⊢
      generalize max 0 (IntKind.i64.wrap (lack.2 - l.u)) = wu at htick hwu0 ⊢
      by_cases h0 : wd = 0 ∧ wu = 0
      · have e : s.tick nm l.d l.u K = ({ s with m := mdel s.m nm }, 0, (0, 0), false) := by rw [htick, tickW, if_pos h0]
        rw [e]
        obtain ⟨rfl, rfl⟩ := h0
        refine gw ?_
        refine n_ldI (.raw (.map (some mb))) rfl rfl (fun _ w1 _ hI1 => load_cell aggGMap (blk_at (hI1.res 0 rfl rfl).1 (j := 2) rfl rfl)) ?_
        (refine gs ?_)
        refine gw ?_
        refine n_delete (E := nmE) (ev' := rtV) (i := 0) (b := mb) (kr := .str nm) (ρ := gossRes p mb s) (gossRes p mb { s with m := mdel s.m nm }) s.m nm nmK rfl rfl rfl rfl rfl rfl hnm rfl rfl rfl (by simp [gossRes]) (by simp [gossRes]) (fun _ _ _ _ h => by exact h.2.1) (fun _ _ _ _ _ hR1 hf1 h => goss_map hR1 hf1 h) ?_
        (refine gs ?_)
        refine gw ?_
        exact n_ret0 rfl rfl fun ids' w' hp hI' => ⟨rfl, post_res hI' rfl 0 rfl rfl rfl⟩
      · refine n_brF (by simp; omega) ?_
        (refine gs ?_)
        refine gw ?_
        refine n_call4 rfl fun b1 b2 b3 b4 => ?_
        refine n_callN (fun y : Nat => cellsRes y (K.flatMap rtL) 37) 37 (fun y => .raw (.slice (some ⟨y, 0, none⟩) v.ns.length v.ns.length)) (fun y => .slice (some ⟨y, 0, none⟩) v.ns.length v.ns.length) (fun _ => True) rfl rfl rfl (fun _ => rfl) (fun w1 hI1 => hK ▸ Known_ok (hI1.res 2 rfl rfl) hl nm hnm) ?_
        intro y _ hny
        (refine gs ?_)
        by_cases hd : 0 < wd
        · (repeat ((first | refine n_must rfl ?_ | refine n_chk (drawF_ok (by decide +kernel)) ?_ | refine n_same rfl ?_ | ((first | refine n_must ?_ ?_ | refine n_brT ?_ ?_); (focus (first | (simp [hd]; done) | (simp [hd]; omega) | (simp only [hd]; simp; done)))) | (refine n_brF ?_ ?_; (focus (first | (simp [hd]; done) | (simp [hd]; omega) | (simp only [hd]; simp; done)))) | refine n_must (by (with_reducible refine and_shape ?_) <;> kernel_rfl) ?_); (refine gs ?_)))
          refine n_sameP (.int .i64 (askF s.me (K.map (kindF true)))) rfl rfl rfl (fun _ w1 hp1 hI1 => by
            have := most1_ok (hI1.res 0 rfl rfl) hme (o := some ⟨y, 0, none⟩) (K := K) v.ns.length (cells_read (hI1.res 7 rfl rfl)) (fun x hx => hI1.resLt 7 rfl rfl x (rd_inC hx)) (fun x hx hm => hI1.res_res 0 7 (by decide) rfl rfl rfl rfl x hx (rd_inC hm)) (by omega)
            rw [hKl] at this
            exact this) ?_
          (refine gs ?_)
          by_cases ht : askF s.me (K.map (kindF true)) < 0
          · by_cases hu : 0 < wu
            · (repeat ((first | refine n_must rfl ?_ | refine n_chk (drawF_ok (by decide +kernel)) ?_ | refine n_same rfl ?_ | ((first | refine n_must ?_ ?_ | refine n_brT ?_ ?_); (focus (first | (simp [ht, hu]; done) | (simp [ht, hu]; omega) | (simp only [ht, hu]; simp; done)))) | (refine n_brF ?_ ?_; (focus (first | (simp [ht, hu]; done) | (simp [ht, hu]; omega) | (simp only [ht, hu]; simp; done)))) | refine n_must (by (with_reducible refine and_shape ?_) <;> kernel_rfl) ?_); (refine gs ?_)))
              refine n_sameP (.int .i64 (askF s.me (K.map (kindF false)))) rfl rfl rfl (fun _ w1 hp1 hI1 => by
                have := most2_ok (hI1.res 0 rfl rfl) hme (o := some ⟨y, 0, none⟩) (K := K) v.ns.length (cells_read (hI1.res 7 rfl rfl)) (fun x hx => hI1.resLt 7 rfl rfl x (rd_inC hx)) (fun x hx hm => hI1.res_res 0 7 (by decide) rfl rfl rfl rfl x hx (rd_inC hm)) (by omega)
                rw [hKl] at this
                exact this) ?_
              (refine gs ?_)
              have eto : toF s.me wd wu K = askF s.me (K.map (kindF false)) := by unfold toF; rw [if_pos hd, if_pos ⟨ht, hu⟩]
              by_cases ht2 : askF s.me (K.map (kindF false)) < 0
              · (repeat ((first | refine n_must rfl ?_ | refine n_chk (drawF_ok (by decide +kernel)) ?_ | refine n_same rfl ?_ | ((first | refine n_must ?_ ?_ | refine n_brT ?_ ?_); (focus (first | (simp [ht2]; done) | (simp [ht2]; omega) | (simp only [ht2]; simp; done)))) | (refine n_brF ?_ ?_; (focus (first | (simp [ht2]; done) | (simp [ht2]; omega) | (simp only [ht2]; simp; done)))) | refine n_must (by (with_reducible refine and_shape ?_) <;> kernel_rfl) ?_); (refine gs ?_)))
                have e : s.tick nm l.d l.u K = (s, 0, (0, 0), false) := by rw [htick, tickW, if_neg h0, eto, if_pos ht2]
                rw [e]
                exact n_ret0 rfl rfl fun ids' w' hp hI' => ⟨rfl, post_res hI' rfl 0 rfl rfl rfl⟩
              · (repeat ((first | refine n_must rfl ?_ | refine n_chk (drawF_ok (by decide +kernel)) ?_ | refine n_same rfl ?_ | ((first | refine n_must ?_ ?_ | refine n_brT ?_ ?_); (focus (first | (simp [ht2]; done) | (simp [ht2]; omega) | (simp only [ht2]; simp; done)))) | (refine n_brF ?_ ?_; (focus (first | (simp [ht2]; done) | (simp [ht2]; omega) | (simp only [ht2]; simp; done)))) | refine n_must (by (with_reducible refine and_shape ?_) <;> kernel_rfl) ?_); (refine gs ?_)))
                have e : s.tick nm l.d l.u K = ({ s with m := mdel s.m nm }, (askF s.me (K.map (kindF false))), (wd, wu), true) := by rw [htick, tickW, if_neg h0, eto, if_neg ht2]
                rw [e]
                refine n_ldI (.raw (.map (some mb))) rfl rfl (fun _ w1 _ hI1 => load_cell aggGMap (blk_at (hI1.res 0 rfl rfl).1 (j := 2) rfl rfl)) ?_
                (refine gs ?_)
                refine gw ?_
                refine n_delete (E := nmE) (ev' := rtV) (i := 0) (b := mb) (kr := .str nm) (ρ := gossRes p mb s) (gossRes p mb { s with m := mdel s.m nm }) s.m nm nmK rfl rfl rfl rfl rfl rfl hnm rfl rfl rfl (by simp [gossRes]) (by simp [gossRes]) (fun _ _ _ _ h => by exact h.2.1) (fun _ _ _ _ _ hR1 hf1 h => goss_map hR1 hf1 h) ?_
                (refine gs ?_)
                refine gw ?_
                exact n_ret0 rfl rfl fun ids' w' hp hI' => ⟨rfl, post_res hI' rfl 0 rfl rfl rfl⟩
            · (repeat ((first | refine n_must rfl ?_ | refine n_chk (drawF_ok (by decide +kernel)) ?_ | refine n_same rfl ?_ | ((first | refine n_must ?_ ?_ | refine n_brT ?_ ?_); (focus (first | (simp [ht, hu]; done) | (simp [ht, hu]; omega) | (simp only [ht, hu]; simp; done)))) | (refine n_brF ?_ ?_; (focus (first | (simp [ht, hu]; done) | (simp [ht, hu]; omega) | (simp only [ht, hu]; simp; done)))) | refine n_must (by (with_reducible refine and_shape ?_) <;> kernel_rfl) ?_); (refine gs ?_)))
              have eto : toF s.me wd wu K = askF s.me (K.map (kindF true)) := by unfold toF; rw [if_pos hd, if_neg (by rintro ⟨_, h⟩; exact hu h)]
              have e : s.tick nm l.d l.u K = (s, 0, (0, 0), false) := by rw [htick, tickW, if_neg h0, eto, if_pos ht]
              rw [e]
              exact n_ret0 rfl rfl fun ids' w' hp hI' => ⟨rfl, post_res hI' rfl 0 rfl rfl rfl⟩
          · (repeat ((first | refine n_must rfl ?_ | refine n_chk (drawF_ok (by decide +kernel)) ?_ | refine n_same rfl ?_ | ((first | refine n_must ?_ ?_ | refine n_brT ?_ ?_); (focus (first | (simp [ht]; done) | (simp [ht]; omega) | (simp only [ht]; simp; done)))) | (refine n_brF ?_ ?_; (focus (first | (simp [ht]; done) | (simp [ht]; omega) | (simp only [ht]; simp; done)))) | refine n_must (by (with_reducible refine and_shape ?_) <;> kernel_rfl) ?_); (refine gs ?_)))
            have eto : toF s.me wd wu K = askF s.me (K.map (kindF true)) := by unfold toF; rw [if_pos hd, if_neg (by rintro ⟨h, _⟩; exact ht h)]
            have e : s.tick nm l.d l.u K = ({ s with m := mdel s.m nm }, (askF s.me (K.map (kindF true))), (wd, wu), true) := by rw [htick, tickW, if_neg h0, eto, if_neg ht]
            rw [e]
            refine n_ldI (.raw (.map (some mb))) rfl rfl (fun _ w1 _ hI1 => load_cell aggGMap (blk_at (hI1.res 0 rfl rfl).1 (j := 2) rfl rfl)) ?_
            (refine gs ?_)
            refine gw ?_
            refine n_delete (E := nmE) (ev' := rtV) (i := 0) (b := mb) (kr := .str nm) (ρ := gossRes p mb s) (gossRes p mb { s with m := mdel s.m nm }) s.m nm nmK rfl rfl rfl rfl rfl rfl hnm rfl rfl rfl (by simp [gossRes]) (by simp [gossRes]) (fun _ _ _ _ h => by exact h.2.1) (fun _ _ _ _ _ hR1 hf1 h => goss_map hR1 hf1 h) ?_
            (refine gs ?_)
            refine gw ?_
            exact n_ret0 rfl rfl fun ids' w' hp hI' => ⟨rfl, post_res hI' rfl 0 rfl rfl rfl⟩
        · have hu : 0 < wu := by omega
          (repeat ((first | refine n_must rfl ?_ | refine n_chk (drawF_ok (by decide +kernel)) ?_ | refine n_same rfl ?_ | ((first | refine n_must ?_ ?_ | refine n_brT ?_ ?_); (focus (first | (simp [hd, hu]; done) | (simp [hd, hu]; omega) | (simp only [hd, hu]; simp; done)))) | (refine n_brF ?_ ?_; (focus (first | (simp [hd, hu]; done) | (simp [hd, hu]; omega) | (simp only [hd, hu]; simp; done)))) | refine n_must (by (with_reducible refine and_shape ?_) <;> kernel_rfl) ?_); (refine gs ?_)))
          refine n_sameP (.int .i64 (askF s.me (K.map (kindF false)))) rfl rfl rfl (fun _ w1 hp1 hI1 => by
            have := most2_ok (hI1.res 0 rfl rfl) hme (o := some ⟨y, 0, none⟩) (K := K) v.ns.length (cells_read (hI1.res 7 rfl rfl)) (fun x hx => hI1.resLt 7 rfl rfl x (rd_inC hx)) (fun x hx hm => hI1.res_res 0 7 (by decide) rfl rfl rfl rfl x hx (rd_inC hm)) (by omega)
            rw [hKl] at this
            exact this) ?_
          (refine gs ?_)
          have eto : toF s.me wd wu K = askF s.me (K.map (kindF false)) := by unfold toF; rw [if_neg hd, if_pos ⟨by decide, hu⟩]
          by_cases ht2 : askF s.me (K.map (kindF false)) < 0
          · (repeat ((first | refine n_must rfl ?_ | refine n_chk (drawF_ok (by decide +kernel)) ?_ | refine n_same rfl ?_ | ((first | refine n_must ?_ ?_ | refine n_brT ?_ ?_); (focus (first | (simp [ht2]; done) | (simp [ht2]; omega) | (simp only [ht2]; simp; done)))) | (refine n_brF ?_ ?_; (focus (first | (simp [ht2]; done) | (simp [ht2]; omega) | (simp only [ht2]; simp; done)))) | refine n_must (by (with_reducible refine and_shape ?_) <;> kernel_rfl) ?_); (refine gs ?_)))
            have e : s.tick nm l.d l.u K = (s, 0, (0, 0), false) := by rw [htick, tickW, if_neg h0, eto, if_pos ht2]
            rw [e]
            exact n_ret0 rfl rfl fun ids' w' hp hI' => ⟨rfl, post_res hI' rfl 0 rfl rfl rfl⟩
          · (repeat ((first | refine n_must rfl ?_ | refine n_chk (drawF_ok (by decide +kernel)) ?_ | refine n_same rfl ?_ | ((first | refine n_must ?_ ?_ | refine n_brT ?_ ?_); (focus (first | (simp [ht2]; done) | (simp [ht2]; omega) | (simp only [ht2]; simp; done)))) | (refine n_brF ?_ ?_; (focus (first | (simp [ht2]; done) | (simp [ht2]; omega) | (simp only [ht2]; simp; done)))) | refine n_must (by (with_reducible refine and_shape ?_) <;> kernel_rfl) ?_); (refine gs ?_)))
            have e : s.tick nm l.d l.u K = ({ s with m := mdel s.m nm }, (askF s.me (K.map (kindF false))), (wd, wu), true) := by rw [htick, tickW, if_neg h0, eto, if_neg ht2]
            rw [e]
            refine n_ldI (.raw (.map (some mb))) rfl rfl (fun _ w1 _ hI1 => load_cell aggGMap (blk_at (hI1.res 0 rfl rfl).1 (j := 2) rfl rfl)) ?_
            (refine gs ?_)
            refine gw ?_
            refine n_delete (E := nmE) (ev' := rtV) (i := 0) (b := mb) (kr := .str nm) (ρ := gossRes p mb s) (gossRes p mb { s with m := mdel s.m nm }) s.m nm nmK rfl rfl rfl rfl rfl rfl hnm rfl rfl rfl (by simp [gossRes]) (by simp [gossRes]) (fun _ _ _ _ h => by exact h.2.1) (fun _ _ _ _ _ hR1 hf1 h => goss_map hR1 hf1 h) ?_
            (refine gs ?_)
            refine gw ?_
            exact n_ret0 rfl rfl fun ids' w' hp hI' => ⟨rfl, post_res hI' rfl 0 rfl rfl rfl⟩
end Go.Proofs.YtglafgpjgkphkaaGreatDoor
