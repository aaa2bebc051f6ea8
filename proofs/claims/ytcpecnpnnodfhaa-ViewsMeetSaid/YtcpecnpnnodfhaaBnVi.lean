/- Chapter 9's law without the document's answer: a replica sends its digest (step, kind 1). Chapter 9's law without the document's answer: where a right was said last (place). Chapter 9's law without the document's answer: what is known was said. Plain. -/
import Derived.Test.YtcpecnpnnodfhaaVyC
import Derived.Test.YtcpecnpnnodfhaaBnVh
namespace Go.Proofs.Ytcpecnpnnodfhaa
section
set_option maxRecDepth 100000
set_option linter.unusedSimpArgs false
set_option linter.unusedVariables false
set_option maxHeartbeats 8000000
open Go.RowKit

theorem dig_row9 {v mb nb n : Nat} {s : Vs} {r : Rv} {w : World} (hrel : VRel s r n) (hl : r.All.length ≤ 100000) (hR : (viewsRes v mb nb s).R w) :
    Calls Try.prog 16 #[pV v] w fun e w' => ∃ y : Option Addr × Nat, e = .returned (.slice y.1 (rDigF r).length y.2) ∧ (0 < (rDigF r).length → ∃ g, y.1 = some ⟨g, 0, none⟩) ∧ FreshR w w' (vRow y.1 (rDigF r).length y.2 (vws (rDigF r))) := by
  have hnd : (s.V.map (·.1)).Nodup := hR.2.1.nodup
  have hV := V_le hrel hnd
  refine (Digest_ok hR (by omega) (mine_ne hrel hnd)).mono fun e w' ⟨y, he, ⟨h1, h2⟩, hf⟩ => ?_
  have := digest_like hrel hnd h1 h2
  rw [this] at he hf
  exact ⟨y.1, he, fun h => rowRes_some' hf.2.1 h, hf⟩
theorem digU_len (r : Rv) (m : Nat) : (digU r m).length ≤ m := by
  unfold digU
  rw [List.length_map]
  exact Nat.le_trans (List.length_filter_le _ _) (by simp)
theorem aggLts : aggB Try.prog 39 = some false := by kernel_rfl
theorem sizeLts : sizeB Try.prog 39 = some 1 := by kernel_rfl
theorem elemLt : sliceElem Try.prog 39 = some 44 := by kernel_rfl
theorem infoLt : (Try.prog.info? 44).map (fun i => (i.zero, i.size, i.bytes)) = some (some (.agg #[.int .i64 0, .slice none 0 0]), 2, 32) := by kernel_rfl
theorem cells_let (a : Int) (v : Option Addr) (n c : Nat) : cells1 (.agg [.int .i64 a, .raw (.slice v n c)]) = some [.int .i64 a, .raw (.slice v n c)] := by
  simp [cells1, svCells, allOne, oneSV, Value.oneCell']
theorem tcl_set_s {v s u : Value} {f : Nat → Value} : (tcl v f s).take 33 ++ [u] ++ (tcl v f s).drop (33 + 1) = tcl v f u := by
  rw [set_one (by rw [tcl_len]; omega), tcl, tcl, show 33 = 32 + 1 by rfl, List.set_cons_succ, List.set_append_right _ _ (by simp)]
  simp
theorem all_none {A : List Res} {w : World} (h : (allRes A).R w) : (allRes (A ++ [Res.none])).R w ∧ ∀ x ∈ (allRes (A ++ [Res.none])).fp, x ∈ (allRes A).fp := by
  obtain ⟨h1, h2⟩ := h
  have hget : ∀ (k : Nat) r, (A ++ [Res.none])[k]? = some r → A[k]? = some r ∨ r = Res.none := by
    intro k r hr
    by_cases hk : k < A.length
    · rw [List.getElem?_append_left hk] at hr; exact .inl hr
    · rw [List.getElem?_append_right (by omega)] at hr
      have := List.mem_of_getElem? hr
      simp at this
      exact .inr this
  refine ⟨⟨fun r hr => ?_, fun i j r s hi hj hij x hx hxs => ?_⟩, fun x hx => ?_⟩
  · rcases List.mem_append.1 hr with hr | hr
    · exact h1 r hr
    · rw [List.mem_singleton] at hr; subst hr; trivial
  · rcases hget i r hi with hi | rfl
    · rcases hget j s hj with hj | rfl
      · exact h2 i j r s hi hj hij x hx hxs
      · simp [Res.none] at hxs
    · simp [Res.none] at hx
  · obtain ⟨r, hr, hxr⟩ := List.mem_flatMap.1 hx
    rcases List.mem_append.1 hr with hr | hr
    · exact List.mem_flatMap.2 ⟨r, hr, hxr⟩
    · rw [List.mem_singleton] at hr; subst hr; simp [Res.none] at hxr
theorem step1_ok {t n N : Nat} {T : Tk} {y : Sy} {w : World} (hT : T.ok n N) (hN : N ≤ 1000) (hy : y.good) (hk : withinF y.k 0 2 = 1) (hR : (tkRes t T).R w) (hTl : T.T.length ≤ N) :
    Calls Try.prog 14 #[pV t, y.val] w fun e w' => ∃ (x : Rp) (so : Option Addr) (sc : Nat) (l : Option Addr × Nat), e = .returned (.bool true) ∧ T.X[(withinF y.who 0 ((n : Int) - 1)).toNat]? = some x ∧
      Post (tkRes t T) (tkRes t { T with so := so, sc := sc, T := T.T ++ [⟨(withinF y.who 0 ((n : Int) - 1)).toNat, l, digU x.r 4⟩] }) w w' := by
  obtain ⟨hlen, hn, hrel⟩ := hT
  obtain ⟨g1, g2, g3, g4, g5, g6, g7⟩ := hy
  have hI : Inv (cx 197 [(6, .then [(1, []), (3, []), (4, []), (6, []), (7, []), (10, []), (11, [])] (.fork 0 [11, 7, 4] (.then [(2, [])] (.fork 5 [11, 7] (.then [] (.fork 8 [11] (.then [(9, [])] (.fork 12 [] (.of [(13, []), (14, []), (15, [])]) (.cons 14 [11] (.of [(12, []), (13, []), (15, [])])))) (.cons 14 [11, 7] (.of [(8, [11]), (9, []), (12, []), (13, []), (15, [])])))) (.cons 14 [11, 7, 4] (.of [(5, [11, 7]), (8, [11]), (9, []), (12, []), (13, []), (15, [])])))) (.cons 14 [11, 7, 4] (.of [(0, [11, 7, 4]), (2, []), (5, [11, 7]), (8, [11]), (9, []), (12, []), (13, []), (15, [])])))), (16, .of [(0, []), (1, []), (2, []), (3, []), (4, []), (7, []), (8, []), (9, []), (5, []), (6, []), (10, []), (11, [])]), (32, .then [(0, []), (1, []), (2, []), (3, []), (4, []), (5, []), (6, []), (7, []), (8, []), (9, []), (10, []), (11, [])] (.fork 12 [3] (.of [(13, []), (14, []), (15, [14, 3]), (16, [])]) (.cons 15 [9, 5, 3] (.of [(12, [3]), (13, []), (14, []), (16, [])]))))] (tkRes t T).fp w) w [0, 0, 0, 0, 0, 0] (tkMem t T) := memRes_open hR fun x hx => hx
  have bw := within_le (x := y.who) (show (0 : Int) ≤ (n : Int) - 1 by omega)
  obtain ⟨wi, hwi⟩ := Int.eq_ofNat_of_zero_le bw.1
  rw [hwi] at bw
  have hnn : IntKind.i64.wrap ((T.X.length : Int) - 1) = (n : Int) - 1 := by rw [hlen]; exact w64 (by omega) (by omega)
  have hgv : ∃ g, T.vo = some ⟨g, 0, none⟩ := rowRes_some' (memRes_res hR 1 rfl rfl) (by omega)
  obtain ⟨gv, hgv⟩ := hgv
  obtain ⟨itt, hitt, hpt⟩ := Option.map_eq_some_iff.1 infoVw
  simp only [Prod.mk.injEq] at hpt
  refine calls_sm (cx 197 [(6, .then [(1, []), (3, []), (4, []), (6, []), (7, []), (10, []), (11, [])] (.fork 0 [11, 7, 4] (.then [(2, [])] (.fork 5 [11, 7] (.then [] (.fork 8 [11] (.then [(9, [])] (.fork 12 [] (.of [(13, []), (14, []), (15, [])]) (.cons 14 [11] (.of [(12, []), (13, []), (15, [])])))) (.cons 14 [11, 7] (.of [(8, [11]), (9, []), (12, []), (13, []), (15, [])])))) (.cons 14 [11, 7, 4] (.of [(5, [11, 7]), (8, [11]), (9, []), (12, []), (13, []), (15, [])])))) (.cons 14 [11, 7, 4] (.of [(0, [11, 7, 4]), (2, []), (5, [11, 7]), (8, [11]), (9, []), (12, []), (13, []), (15, [])])))), (16, .of [(0, []), (1, []), (2, []), (3, []), (4, []), (7, []), (8, []), (9, []), (5, []), (6, []), (10, []), (11, [])]), (32, .then [(0, []), (1, []), (2, []), (3, []), (4, []), (5, []), (6, []), (7, []), (8, []), (9, []), (10, []), (11, [])] (.fork 12 [3] (.of [(13, []), (14, []), (15, [14, 3]), (16, [])]) (.cons 15 [9, 5, 3] (.of [(12, [3]), (13, []), (14, []), (16, [])]))))] (tkRes t T).fp w) (vals := [.raw (pV t), .agg y.sv]) mixed Try.func14 rfl rfl rfl hI rfl (st rfl ?_); conv => arg 3; whnf
  refine gw ?_
  (refine n_ldA (.raw (.slice T.vo T.X.length T.vc)) rfl (by first | exact trivial | rfl) rfl (fun _ w1 _ hI1 => load_cell aggVp (tk_v (hI1.res 0 rfl rfl) rfl)) ?_; (refine gs ?_))
  refine gw ?_
  refine n_sameP (.int .i64 (wi : Nat)) rfl rfl rfl (fun _ w1 hp1 hI1 => by rw [hnn, ← hwi]; exact within_ok y.who 0 _ g2 (by omega) (by omega) (by omega) w1) ?_; (refine gs ?_)
  refine gw ?_
  refine n_sameP (.int .i64 1) rfl rfl rfl (fun _ w1 hp1 hI1 => (by have h := within_ok y.k 0 2 g1 (by omega) (by omega) (by omega) w1; rw [hk] at h; exact h)) ?_; (refine gs ?_)
  refine gw ?_
  have hxw : wi < T.X.length := by omega
  have hx : T.X[wi]? = some T.X[wi] := List.getElem?_eq_getElem hxw
  generalize T.X[wi] = x at hx
  obtain ⟨hv, hsp, hme, hal⟩ := hrel wi x hx
  have hAx : (T.X.map Rp.res)[wi]? = some x.res := by rw [List.getElem?_map, hx]; rfl
  have hdf := dig_four hv hsp
  (refine n_ldA (.raw (.slice (some ⟨gv, 0, none⟩) T.X.length T.vc)) rfl (by first | exact trivial | rfl) rfl (fun _ w1 _ hI1 => (by rw [← hgv]; exact load_cell aggVp (tk_v (hI1.res 0 rfl rfl) rfl))) ?_; (refine gs ?_))
  refine gw ?_
  (refine n_ldA (.raw (pV x.v)) rfl (by first | exact trivial | rfl) rfl (fun _ w1 _ hI1 => load_cell aggPv (rowRes_cell (hgv ▸ hI1.res 1 rfl rfl) (by rw [Nat.mul_one, List.getElem?_map, Int.toNat_natCast, hx]; rfl))) ?_; (refine gs ?_))
  refine gw ?_
  generalize hDL : digU x.r 4 = DL at hdf
  refine n_callE fun ids9 hp9 hl9 => ?_
  obtain ⟨tl, rfl⟩ := hp9
  obtain ⟨a1, rfl⟩ : ∃ a, tl = [a] := by
    match tl, hl9 with
    | [a], _ => exact ⟨a, rfl⟩
  clear hl9
  refine n_callN (fun y : Option Addr × Nat => vRow y.1 DL.length y.2 (vws DL)) 49 (fun y => .raw (.slice y.1 DL.length y.2)) (fun y => .slice y.1 DL.length y.2) (fun y => 0 < DL.length → ∃ g, y.1 = some ⟨g, 0, none⟩) rfl rfl rfl (fun _ => rfl) (fun w1 hI1 => hdf ▸ dig_row9 hv (by omega) (all_out (hI1.res 2 rfl rfl) hAx).1.2.1) ?_
  rintro ⟨l0, lc0⟩ hl0 hl1
  dsimp only at hl0 ⊢
  (refine gs ?_)
  refine gw ?_
  refine n_loop (σ := Nat) (fun m => [(0, .raw (pV t)), (6, .int .i64 (wi : Nat)), (11, .raw (.slice l0 DL.length lc0)), (12, .int .i64 ((digU x.r m).length : Nat)), (13, .int .i64 (m : Nat))]) (fun _ => tkMem t T ++ [⟨32, y.sv, true⟩, ⟨49, [.res (vRow l0 DL.length lc0 (vws DL))], true⟩]) (fun m => m ≤ 4) (fun m => 4 - m) 0 mixed (by omega) (fun _ _ => rfl) rfl (by (repeat (first | exact trivial | refine ⟨⟨rfl, rfl⟩, ?_⟩))) (fun s _ => ⟨by (repeat (first | exact trivial | refine ⟨⟨_, rfl⟩, ?_⟩)), by (repeat (first | exact trivial | refine ⟨⟨_, rfl⟩, ?_⟩))⟩) fun m hm => ?_
  (refine gs ?_)
  by_cases hm4 : m < 4
  · have em : IntKind.i64.wrap ((m : Int) + 1) = ((m + 1 : Nat) : Int) := by rw [w64 (by omega) (by omega)]; simp
    have hj32 : wi * 4 + m < 32 := by omega
    have hown : hadL T.X (wi * 4 + m) = ownL x.r.All x.r.me (nmK m) := by
      unfold hadL
      rw [show (wi * 4 + m) / 4 = wi by omega, show (wi * 4 + m) % 4 = m by omega, hx]
    have hsl : T.sl (wi * 4 + m) = .slice (T.S (wi * 4 + m)).1 (ownL x.r.All x.r.me (nmK m)).length (T.S (wi * 4 + m)).2 := by unfold Tk.sl; rw [hown]
    have hrw9 : T.rows[wi * 4 + m]? = some (vRow (T.S (wi * 4 + m)).1 (ownL x.r.All x.r.me (nmK m)).length (T.S (wi * 4 + m)).2 (vws (ownL x.r.All x.r.me (nmK m)))) := by
      rw [List.getElem?_map, List.getElem?_range hj32]
      simp only [Option.map_some, Tk.row, hown]
    have hol := ownL_le x.r.All x.r.me (nmK m)
    have hsm : 0 < (ownL x.r.All x.r.me (nmK m)).length → ∃ g, (T.S (wi * 4 + m)).1 = some ⟨g, 0, none⟩ := fun h0 => rowRes_some' (all_out (memRes_res hR 3 rfl rfl) hrw9).1.2.1 h0
    have hnx := digU_next x.r m
    have hat := fun h => digU_at x.r hm4 h
    have hlo := last_own x.r.All x.r.me (nmK m)
    rw [hDL] at hat
    generalize hso : (T.S (wi * 4 + m)).1 = so at hsl hrw9 hsm
    generalize hsc : (T.S (wi * 4 + m)).2 = sc at hsl hrw9 hsm
    generalize hO : ownL x.r.All x.r.me (nmK m) = O at hsl hrw9 hown hol hsm hnx hat hlo
    refine gw ?_
    (refine n_ldA (.raw (.slice so O.length sc)) rfl (by first | exact trivial | rfl) rfl (fun _ w1 _ hI1 => (by rw [← hsl]; exact load_cell aggVws9 (tk_had (hI1.res 0 rfl rfl) hj32 (by rw [Int.toNat_natCast, Int.toNat_natCast, add_mk2, add_mk2, add_mk2]; congr 1; show 0 + 1 + wi * 4 + m * 1 = _; omega)))) ?_; (refine gs ?_))
    refine gw ?_
    refine n_br (fun hb => ?_) (fun hb => ?_)
    · have hO0 : O = [] := by
        have hb' : (O.length : Int) = 0 := by simpa using hb
        have : O.length = 0 := by omega
        simpa using this
      rw [hO0, if_pos (by rfl)] at hnx
      (refine gs ?_)
      refine gw ?_
      exact n_again ⟨m + 1, by omega, by omega, (by (repeat (first | exact trivial | refine ⟨⟨rfl, rfl⟩, ?_⟩ | refine ⟨⟨rfl, congrArg (SV.int .i64) em⟩, ?_⟩ | refine ⟨⟨rfl, congrArg (fun z : List Vw => SV.int .i64 (z.length : Nat)) hnx.symm⟩, ?_⟩))), ⟨_, rfl⟩⟩
    · have hb0 : 0 < O.length := by
        have hb' : ¬ ((O.length : Int) = 0) := by simpa using hb
        omega
      have hne : O.isEmpty = false := by cases O with
        | nil => simp at hb0
        | cons a l => rfl
      rw [hne, if_neg (by simp)] at hnx
      have hz : O[O.length - 1]? = some (lastF x.r.All x.r.me (nmK m)) := by
        rw [hlo, List.getLast?_eq_getElem?, List.getElem?_eq_getElem (by omega)]; rfl
      have hd := hat hne
      generalize lastF x.r.All x.r.me (nmK m) = z at hz hd hnx
      have hdl := (List.getElem?_eq_some_iff.1 hd).1
      obtain ⟨go, rfl⟩ := hsm hb0
      obtain ⟨gd, rfl⟩ := hl0 (by omega)
      have e1 : IntKind.i64.wrap ((O.length : Int) - 1) = ((O.length - 1 : Nat) : Int) := by rw [w64 (by omega) (by omega)]; omega
      (refine gs ?_)
      (repeat ((first | refine n_must rfl ?_ | refine n_chk (drawF_ok (by decide +kernel)) ?_ | refine n_same rfl ?_ | ((first | refine n_must ?_ ?_ | refine n_brT ?_ ?_); (focus (first | (simp [e1, hdl]; done) | (simp [e1, hdl]; omega) | (simp only [e1, hdl]; simp; done)))) | (refine n_brF ?_ ?_; (focus (first | (simp [e1, hdl]; done) | (simp [e1, hdl]; omega) | (simp only [e1, hdl]; simp; done)))) | refine n_must (by (with_reducible refine and_shape ?_) <;> kernel_rfl) ?_); (refine gs ?_)))
      (refine n_ldA (.agg z.sv) rfl (by first | exact trivial | rfl) rfl (fun _ w1 _ hI1 => load_row (l := z.l) aggView sizeView (fun j u hu => row_at vw_len (hI1.res 7 rfl rfl) hd (by have := (List.getElem?_eq_some_iff.1 hu).1; simpa using this) hu (by rw [Int.toNat_natCast, add_add]))) ?_; (refine gs ?_))
      (repeat ((first | refine n_must rfl ?_ | refine n_chk (drawF_ok (by decide +kernel)) ?_ | refine n_same rfl ?_ | ((first | refine n_must ?_ ?_ | refine n_brT ?_ ?_); (focus (first | (simp [e1]; done) | (simp [e1]; omega) | (simp only [e1]; simp; done)))) | (refine n_brF ?_ ?_; (focus (first | (simp [e1]; done) | (simp [e1]; omega) | (simp only [e1]; simp; done)))) | refine n_must (by (with_reducible refine and_shape ?_) <;> kernel_rfl) ?_); (refine gs ?_)))
      (refine n_ldA (.agg z.sv) rfl (by first | exact trivial | rfl) rfl (fun _ w1 _ hI1 => load_row (l := z.l) aggView sizeView (fun j u hu => row_at vw_len (all_out (hI1.res 3 rfl rfl) hrw9).1.2.1 hz (by have := (List.getElem?_eq_some_iff.1 hu).1; simpa using this) hu (by rw [e1, Int.toNat_natCast, add_add]))) ?_; (refine gs ?_))
      refine gw ?_
      refine n_sameP (.bool (decide (z = z))) rfl rfl rfl (fun _ w1 hp1 hI1 => same_ok z z w1) ?_; (refine gs ?_)
      have hzz : decide (z = z) = true := decide_eq_true rfl
      have ea : IntKind.i64.wrap (((digU x.r m).length : Int) + 1) = ((digU x.r (m + 1)).length : Nat) := by
        have := digU_len x.r m
        rw [hnx, w64 (by omega) (by omega)]; simp
      (repeat ((first | refine n_must rfl ?_ | refine n_chk (drawF_ok (by decide +kernel)) ?_ | refine n_same rfl ?_ | ((first | refine n_must ?_ ?_ | refine n_brT ?_ ?_); (focus (first | (simp [hzz]; done) | (simp [hzz]; omega) | (simp only [hzz]; simp; done)))) | (refine n_brF ?_ ?_; (focus (first | (simp [hzz]; done) | (simp [hzz]; omega) | (simp only [hzz]; simp; done)))) | refine n_must (by (with_reducible refine and_shape ?_) <;> kernel_rfl) ?_); (refine gs ?_)))
      exact n_again ⟨m + 1, by omega, by omega, (by (repeat (first | exact trivial | refine ⟨⟨rfl, rfl⟩, ?_⟩ | refine ⟨⟨rfl, congrArg (SV.int .i64) em⟩, ?_⟩ | refine ⟨⟨rfl, congrArg (SV.int .i64) ea⟩, ?_⟩))), ⟨_, rfl⟩⟩
  · obtain rfl : m = 4 := by omega
    refine gw ?_
    refine n_exit rfl ?_
    (refine gs ?_)
    refine gw ?_
    rw [hDL]
    (refine n_ldA (.raw (.slice T.so T.T.length T.sc)) rfl (by first | exact trivial | rfl) rfl (fun _ w1 _ hI1 => load_cell aggLts (tk_s (hI1.res 0 rfl rfl) rfl)) ?_; (refine gs ?_))
    refine gw ?_
    obtain ⟨ittL, hittL, hptL⟩ := Option.map_eq_some_iff.1 infoLt
    simp only [Prod.mk.injEq] at hptL
    refine n_build1 rfl rfl elemLt rfl rfl rfl rfl rfl rfl rfl (cells_let (wi : Nat) l0 DL.length lc0) rfl ?_
    (refine gs ?_)
    refine gw ?_
    refine n_append (nv := Lt.c ⟨wi, (l0, lc0), DL⟩) 4 rfl rfl elemLt hittL hptL.1 hptL.2.1 hptL.2.2 rfl (by omega) rfl rfl rfl rfl rfl rfl (by omega) (by simp [Value.oneCell']) (by omega) (by omega) (show T.T.flatMap Lt.c ++ Lt.c ⟨wi, (l0, lc0), DL⟩ = (T.T ++ [(⟨wi, (l0, lc0), DL⟩ : Lt)]).flatMap Lt.c by simp) fun g2 c2 => ?_
    (refine gs ?_)
    refine gw ?_
    refine n_storeA (n := t) (off := 33) (k := 1) (l := T.cells) (v := .slice (some ⟨g2, 0, none⟩) (T.T.length + 1) c2) 0 (cellsRes t (tcl (.slice T.vo T.X.length T.vc) T.sl (.slice (some ⟨g2, 0, none⟩) (T.T.length + 1) c2)) 41) (tcl (.slice T.vo T.X.length T.vc) T.sl (.slice (some ⟨g2, 0, none⟩) (T.T.length + 1) c2)) rfl rfl rfl (by rw [add_mk2]; rfl) rfl rfl sizeLts rfl rfl rfl rfl rfl (by simp [cellsRes]) (fun w h => h) (by rw [tcl_len]; omega) tcl_set_s (fun _ _ _ _ h => h) (fun _ h => h) ?_
    (refine gs ?_)
    refine gw ?_
    refine n_ret rfl fun ids' w' hp hI' => ⟨_, rfl, x, some ⟨g2, 0, none⟩, c2, (l0, lc0), by simp, by rw [hwi, Int.toNat_natCast]; exact hx, ?_⟩
    rw [hwi, Int.toNat_natCast, hDL]
    have h2 := hI'.lessR 5 rfl rfl rfl (fun h => all_none h)
    have h3 := h2.join 5 7 (by decide) rfl rfl rfl rfl rfl rfl (fun h => all_in (i := T.T.length) h (by simp))
    have E0 : tcl (.slice T.vo T.X.length T.vc) T.sl (.slice (some ⟨g2, 0, none⟩) (T.T.length + 1) c2) = ({ T with so := some ⟨g2, 0, none⟩, sc := c2, T := T.T ++ [(⟨wi, (l0, lc0), DL⟩ : Lt)] } : Tk).cells := by
      unfold Tk.cells
      dsimp only
      rw [List.length_append]
      rfl
    have E4 : rowRes 44 2 (some ⟨g2, 0, none⟩) (T.T.length + 1) c2 ((T.T ++ [(⟨wi, (l0, lc0), DL⟩ : Lt)]).flatMap Lt.c) = rowRes 44 2 (some ⟨g2, 0, none⟩) (T.T ++ [(⟨wi, (l0, lc0), DL⟩ : Lt)]).length c2 ((T.T ++ [(⟨wi, (l0, lc0), DL⟩ : Lt)]).flatMap Lt.c) := by rw [List.length_append]; rfl
    have E5 : allRes ((T.T.map Lt.res ++ [Res.none]).set T.T.length (vRow l0 DL.length lc0 (vws DL))) = allRes ((T.T ++ [(⟨wi, (l0, lc0), DL⟩ : Lt)]).map Lt.res) := by
      rw [List.map_append, List.set_append_right _ _ (by simp)]
      simp
    exact post_shut (ids := [0, 0, 0, 0, 0, 0]) (mem := tkMem t { T with so := some ⟨g2, 0, none⟩, sc := c2, T := T.T ++ [(⟨wi, (l0, lc0), DL⟩ : Lt)] }) (ρ := tkRes t T) h3 rfl [0, 1, 2, 3, 4, 5] (.res (congrArg (fun c => some (⟨41, [.res (cellsRes t c 41)], true⟩ : SBlk)) E0) (.res rfl (.res rfl (.res rfl (.res (congrArg (fun r => some (⟨44, [.res r], true⟩ : SBlk)) E4) (.res (congrArg (fun r => some (⟨49, [.res r], true⟩ : SBlk)) E5) .nil)))))) (by decide)
end
section
set_option maxRecDepth 100000
set_option linter.unusedSimpArgs false
set_option linter.unusedVariables false
set_option maxHeartbeats 8000000
open Go.RowKit

def placeA (O : List Vw) (p : Int × Int) : Nat → Int
  | 0 => if p = (0, 0) then 0 else -1
  | i + 1 => if ((O.getD i Vw.zero).d, (O.getD i Vw.zero).u) = p then ((i + 1 : Nat) : Int) else placeA O p i
theorem placeA_nonneg {O : List Vw} {p : Int × Int} : ∀ {i : Nat}, (p = (0, 0) ∨ ∃ j, j < i ∧ ((O.getD j Vw.zero).d, (O.getD j Vw.zero).u) = p) → 0 ≤ placeA O p i
  | 0, h => by
    rcases h with h | ⟨j, hj, _⟩
    · unfold placeA; rw [if_pos h]; omega
    · omega
  | i + 1, h => by
    unfold placeA
    split
    · omega
    · rename_i hn
      refine placeA_nonneg ?_
      rcases h with h | ⟨j, hj, e⟩
      · exact .inl h
      · by_cases e2 : j = i
        · subst e2; exact absurd e hn
        · exact .inr ⟨j, by omega, e⟩
theorem rt_of {x : Vw} {j : Nat} {v : Value} (hv : ([.int .i64 x.d, .int .i64 x.u] : List Value)[j]? = some v) : j < 2 ∧ x.l[4 + j]? = some v := by
  match j, hv with
  | 0, hv => exact ⟨by omega, hv⟩
  | 1, hv => exact ⟨by omega, hv⟩
theorem aggRt9 : aggB Try.prog 47 = some true := by kernel_rfl
theorem place_ok {o : Option Addr} {cap : Nat} {O : List Vw} {w : World} (hl : O.length ≤ 1000000) (hR : (vRow o O.length cap (vws O)).R w) (d u : Int) :
    Calls Try.prog 28 #[.slice o O.length cap, .agg #[.int .i64 d, .int .i64 u]] w fun e w' => e = .returned (.int .i64 (placeA O (d, u) O.length)) ∧ Frm [] w w' := by
  have hI := Inv.nil (P := Try.prog) (N := 24) (S := []) (os := []) w
  have hS : ∀ w1, Frm [] w w1 → (vRow o O.length cap (vws O)).R w1 := fun w1 hf => (vRow o O.length cap (vws O)).stable w w1 (fun k hk => hf.block k (rowRes_lt hR k hk) (by simp)) hR
  have hsm : 0 < O.length → ∃ g, o = some ⟨g, 0, none⟩ := fun h0 => rowRes_some' hR h0
  refine calls_sm (cx 24 [] [] w) (vals := [.raw (.slice o O.length cap), .agg [.int .i64 d, .int .i64 u]]) mixed Try.func28 rfl rfl rfl hI rfl (st rfl ?_); conv => arg 3; whnf
  refine gw ?_
  refine n_loop1 rfl fun bk => ?_
  generalize hP : placeA O (d, u) O.length = P
  refine n_loop (σ := Nat) (fun i => [(0, .raw (.slice o O.length cap)), (3, .ptr 0 0), (5, .int .i64 (i : Nat))]) (fun _ => [⟨47, [.int .i64 d, .int .i64 u], true⟩]) (fun i => i ≤ O.length ∧ placeA O (d, u) i = P) (fun i => i) O.length mixed ⟨Nat.le_refl _, hP⟩ (fun _ _ => rfl) rfl (by (repeat (first | exact trivial | refine ⟨⟨rfl, rfl⟩, ?_⟩))) (fun s _ => ⟨by (repeat (first | exact trivial | refine ⟨⟨_, rfl⟩, ?_⟩)), by (repeat (first | exact trivial | refine ⟨⟨_, rfl⟩, ?_⟩))⟩) fun i ⟨hi, hpl⟩ => ?_
  (refine gs ?_)
  cases i with
  | zero =>
    refine gw ?_
    refine n_exit rfl ?_
    (refine gs ?_)
    refine gw ?_
    refine n_sameP (.bool (decide ((d, u) = ((0 : Int), (0 : Int))))) rfl rfl rfl (fun _ w1 hp1 hI1 => sameR_ok (d, u) (0, 0) w1) ?_; (refine gs ?_)
    unfold placeA at hpl
    refine n_br (fun hb => ?_) (fun hb => ?_)
    · rw [if_pos (of_decide_eq_true hb)] at hpl
      (refine gs ?_)
      refine gw ?_
      refine n_ret rfl fun ids' w' hp hI' => ⟨_, rfl, by rw [← hpl], hI'.frm⟩
    · rw [if_neg (of_decide_eq_false hb)] at hpl
      (refine gs ?_)
      refine gw ?_
      refine n_ret rfl fun ids' w' hp hI' => ⟨_, rfl, by rw [← hpl], hI'.frm⟩
  | succ k =>
    have e1 : IntKind.i64.wrap (((k + 1 : Nat) : Int) - 1) = (k : Nat) := by rw [w64 (by omega) (by omega)]; omega
    have e2 : IntKind.i64.wrap (k : Int) = (k : Int) := w64 (by omega) (by omega)
    have hx : O[k]? = some O[k] := List.getElem?_eq_getElem _
    have hgd : O.getD k Vw.zero = O[k] := by rw [List.getD_eq_getElem?_getD, hx]; rfl
    generalize O[k] = x at hx hgd
    obtain ⟨go, rfl⟩ := hsm (by omega)
    unfold placeA at hpl
    rw [hgd] at hpl
    (repeat ((first | refine n_must rfl ?_ | refine n_chk (drawF_ok (by decide +kernel)) ?_ | refine n_same rfl ?_ | ((first | refine n_must ?_ ?_ | refine n_brT ?_ ?_); (focus (first | (simp [e1, e2]; done) | (simp [e1, e2]; omega) | (simp only [e1, e2]; simp; done)))) | (refine n_brF ?_ ?_; (focus (first | (simp [e1, e2]; done) | (simp [e1, e2]; omega) | (simp only [e1, e2]; simp; done)))) | refine n_must (by (with_reducible refine and_shape ?_) <;> kernel_rfl) ?_); (refine gs ?_)))
    (refine n_ldA (.agg [.int .i64 x.d, .int .i64 x.u]) rfl (by first | exact trivial | rfl) rfl (fun _ w1 _ hI1 => load_row (l := [.int .i64 x.d, .int .i64 x.u]) aggRt9 sizeRt (fun j v hv => row_at (j := 4 + j) vw_len (hS _ hI1.frm) hx (by have := (rt_of hv).1; omega) (rt_of hv).2 (by rw [e1, Int.toNat_natCast, add_mk2, add_mk2, add_mk2, add_mk2]; congr 1; show 0 + k * 7 + 4 + j = 0 + (k * 7 + (4 + j)); omega))) ?_; (refine gs ?_))
    refine gw ?_
    refine n_sameP (.bool (decide ((x.d, x.u) = (d, u)))) rfl rfl rfl (fun _ w1 hp1 hI1 => sameR_ok (x.d, x.u) (d, u) w1) ?_; (refine gs ?_)
    refine n_br (fun hb => ?_) (fun hb => ?_)
    · rw [if_pos (of_decide_eq_true hb)] at hpl
      (refine gs ?_)
      refine gw ?_
      refine n_leave ?_
      refine n_ret rfl fun ids' w' hp hI' => ⟨_, rfl, by rw [← hpl], hI'.frm⟩
    · rw [if_neg (of_decide_eq_false hb)] at hpl
      (refine gs ?_)
      refine gw ?_
      exact n_again ⟨k, ⟨by omega, hpl⟩, by omega, (by (repeat (first | exact trivial | refine ⟨⟨rfl, rfl⟩, ?_⟩ | refine ⟨⟨rfl, congrArg (SV.int .i64) e1⟩, ?_⟩))), ⟨_, rfl⟩⟩
end
section
set_option maxRecDepth 100000
set_option linter.unusedSimpArgs false
set_option linter.unusedVariables false
open Go.RowKit

/-- Whatever a replica holds of an other was said by that other. -/
def Said (X : List Rp) : Prop := ∀ (i : Nat) x, X[i]? = some x → ∀ e ∈ x.r.All, ∃ (j : Nat) (y : Rp), X[j]? = some y ∧ e.1 = (j : Int) ∧ e.2 ∈ ownL y.r.All y.r.me e.2.nm
theorem said_known {X : List Rp} (h : Said X) {i f : Nat} {x : Rp} (hx : X[i]? = some x) {k : Nat} (hk : k < 4) : 0 ≤ placeA (hadL X (f * 4 + k)) ((lastF x.r.All (f : Int) (nmK k)).d, (lastF x.r.All (f : Int) (nmK k)).u) (hadL X (f * 4 + k)).length := by
  refine placeA_nonneg ?_
  rcases lastF_spec x.r.All (f : Int) (nmK k) with ⟨h1, _⟩ | ⟨h1, h2⟩
  · left; rw [h1]
  · right
    obtain ⟨j, y, hy, e1, e2⟩ := h i x hx _ h1
    obtain rfl : f = j := by have : (f : Int) = (j : Int) := e1; omega
    rw [h2] at e2
    have hh : hadL X (f * 4 + k) = ownL y.r.All y.r.me (nmK k) := by
      unfold hadL
      rw [show (f * 4 + k) / 4 = f by omega, show (f * 4 + k) % 4 = k by omega, hy]
    rw [hh]
    obtain ⟨m, hm, e⟩ := List.getElem_of_mem e2
    refine ⟨m, hm, ?_⟩
    rw [List.getD_eq_getElem?_getD, List.getElem?_eq_getElem hm, e]; rfl
theorem Said.set {X : List Rp} {i : Nat} {x x' : Rp} (h : Said X) (hx : X[i]? = some x) (hown : ∀ v nm, v ∈ ownL x.r.All x.r.me nm → v ∈ ownL x'.r.All x'.r.me nm)
    (hnew : ∀ e ∈ x'.r.All, e ∈ x.r.All ∨ (∃ (j : Nat) (y : Rp), X[j]? = some y ∧ e.1 = (j : Int) ∧ e.2 ∈ ownL y.r.All y.r.me e.2.nm) ∨ (e.1 = (i : Int) ∧ e.2 ∈ ownL x'.r.All x'.r.me e.2.nm)) : Said (X.set i x') := by
  have hl := (List.getElem?_eq_some_iff.1 hx).1
  have key : ∀ (j : Nat) (y : Rp) (v : Vw), X[j]? = some y → v ∈ ownL y.r.All y.r.me v.nm → ∃ y', (X.set i x')[j]? = some y' ∧ v ∈ ownL y'.r.All y'.r.me v.nm := by
    intro j y v hy hv
    by_cases e : i = j
    · subst e
      rw [hx] at hy; cases hy
      exact ⟨x', by rw [List.getElem?_set_self hl], hown _ _ hv⟩
    · exact ⟨y, by rw [List.getElem?_set_ne e]; exact hy, hv⟩
  intro k z hz e he
  have main : (∃ (j : Nat) (y : Rp), X[j]? = some y ∧ e.1 = (j : Int) ∧ e.2 ∈ ownL y.r.All y.r.me e.2.nm) ∨ (e.1 = (i : Int) ∧ e.2 ∈ ownL x'.r.All x'.r.me e.2.nm) := by
    rw [List.getElem?_set] at hz
    split at hz
    · rename_i e0
      subst e0; try simp only [hl, if_true] at hz
      cases hz
      rcases hnew e he with h1 | h1 | h1
      · exact .inl (h i x hx e h1)
      · exact .inl h1
      · exact .inr h1
    · exact .inl (h k z hz e he)
  rcases main with ⟨j, y, hy, e1, e2⟩ | ⟨e1, e2⟩
  · obtain ⟨y', hy', hv'⟩ := key j y e.2 hy e2
    exact ⟨j, y', hy', e1, hv'⟩
  · exact ⟨i, x', by rw [List.getElem?_set_self hl], e1, e2⟩
theorem say_said {X : List Rp} {i : Nat} {x : Rp} (h : Said X) (hx : X[i]? = some x) (hme : x.r.me = (i : Int)) (k : Nat) (d u hh : Int) : Said (X.set i (x.say k d u hh)) := by
  have hm : (x.say k d u hh).r.me = x.r.me := (say_len x.r k d u hh).2.1
  refine h.set hx (fun v nm hv => ?_) fun e he => ?_
  · rw [hm]
    show v ∈ ownL (sayF x.r k d u hh).All x.r.me nm
    unfold sayF
    split
    · exact hv
    · rw [ownL_app]; exact List.mem_append_left _ hv
  · rw [hm]
    have he' : e ∈ (sayF x.r k d u hh).All := he
    show _ ∨ _ ∨ (_ ∧ e.2 ∈ ownL (sayF x.r k d u hh).All x.r.me e.2.nm)
    unfold sayF at he' ⊢
    split at he'
    · exact .inl he'
    · rename_i hn
      rcases List.mem_append.1 he' with h1 | h1
      · exact .inl h1
      · right; right
        rw [List.mem_singleton] at h1
        subst h1
        refine ⟨hme, ?_⟩
        rw [if_neg hn]
        dsimp only
        rw [ownL_app, if_pos ⟨rfl, rfl⟩]
        exact List.mem_append_right _ (List.mem_singleton.2 rfl)
/-- A digest under way holds what was said. -/
def Lt.ok (X : List Rp) (l : Lt) : Prop := ∃ y, X[l.f]? = some y ∧ l.L.length ≤ 4 ∧ RisV l.L ∧ (∀ v ∈ l.L, rightB v = true) ∧ ∀ v ∈ l.L, v ∈ ownL y.r.All y.r.me v.nm
theorem takesR_app (k : Int) (L : List Vw) : ∀ a : List (Int × Vw) × Nat, ∃ l, (L.foldl (take1R k) a).1 = a.1 ++ l ∧ ∀ e ∈ l, e.1 = k ∧ e.2 ∈ L := by
  induction L with
  | nil => intro a; exact ⟨[], by simp, by simp⟩
  | cons x L ih =>
    intro a
    obtain ⟨l, h1, h2⟩ := ih (take1R k a x)
    rw [List.foldl_cons, h1]
    unfold take1R
    split
    · refine ⟨(k, x) :: l, by simp, fun e he => ?_⟩
      rcases List.mem_cons.1 he with rfl | he
      · exact ⟨rfl, by simp⟩
      · exact ⟨(h2 e he).1, List.mem_cons_of_mem _ (h2 e he).2⟩
    · exact ⟨l, rfl, fun e he => ⟨(h2 e he).1, List.mem_cons_of_mem _ (h2 e he).2⟩⟩
theorem take_app (r : Rv) (k : Int) (L : List Vw) : ∃ l, (r.take k L).1.All = r.All ++ l ∧ (r.take k L).1.me = r.me ∧ (∀ e ∈ l, e.1 = k ∧ e.2 ∈ L) ∧ (k = r.me → l = []) := by
  unfold Rv.take
  split
  · exact ⟨[], by simp, rfl, by simp, fun _ => rfl⟩
  · rename_i hk
    split
    · exact ⟨[], by simp, rfl, by simp, fun _ => rfl⟩
    · split
      · exact ⟨[], by simp, rfl, by simp, fun _ => rfl⟩
      · split
        · exact ⟨[], by simp, rfl, by simp, fun _ => rfl⟩
        · obtain ⟨l, h1, h2⟩ := takesR_app k L (r.All, 0)
          exact ⟨l, h1, rfl, h2, fun e => absurd (.inr (.inr e)) hk⟩
theorem take_said {X : List Rp} {i : Nat} {x x' : Rp} {l : Lt} (h : Said X) (hx : X[i]? = some x) (hl : l.ok X) (hr : x'.r = (x.r.take (l.f : Int) l.L).1) : Said (X.set i x') := by
  obtain ⟨y, hy, _, _, _, hs⟩ := hl
  obtain ⟨m, h1, h2, h3, _⟩ := take_app x.r (l.f : Int) l.L
  rw [← hr] at h1 h2
  refine h.set hx (fun v nm hv => ?_) fun e he => ?_
  · rw [h1, h2]
    unfold ownL at hv ⊢
    rw [List.filter_append, List.map_append]
    exact List.mem_append_left _ hv
  · rw [h1] at he
    rcases List.mem_append.1 he with he | he
    · exact .inl he
    · exact .inr (.inl ⟨l.f, y, hy, (h3 e he).1, hs _ (h3 e he).2⟩)
theorem take_own {r : Rv} {k : Int} (L : List Vw) (hk : k ≠ r.me) (nm : ByteArray) : ownL (r.take k L).1.All (r.take k L).1.me nm = ownL r.All r.me nm := by
  obtain ⟨m, h1, h2, h3, _⟩ := take_app r k L
  rw [h1, h2]
  unfold ownL
  rw [List.filter_append, List.map_append]
  have : m.filter (fun e => decide (e.1 = r.me ∧ e.2.nm = nm)) = [] := by
    rw [List.filter_eq_nil_iff]
    intro e he h
    have := of_decide_eq_true h
    exact hk ((h3 e he).1.symm.trans this.1)
  rw [this]
  simp
/-- A promise of a letter outlives a change that takes nothing away. -/
theorem Lt.ok.set {X : List Rp} {l : Lt} {i : Nat} {x x' : Rp} (h : l.ok X) (hx : X[i]? = some x) (hown : ∀ v nm, v ∈ ownL x.r.All x.r.me nm → v ∈ ownL x'.r.All x'.r.me nm) : l.ok (X.set i x') := by
  obtain ⟨y, hy, h1, h2, h3, h4⟩ := h
  by_cases e : i = l.f
  · subst e
    rw [hx] at hy; cases hy
    exact ⟨x', by rw [List.getElem?_set_self (List.getElem?_eq_some_iff.1 hx).1], h1, h2, h3, fun v hv => hown _ _ (h4 v hv)⟩
  · exact ⟨y, by rw [List.getElem?_set_ne e]; exact hy, h1, h2, h3, h4⟩
/-- A new digest keeps its promise. -/
theorem dig_ok {X : List Rp} {i : Nat} {x : Rp} (hx : X[i]? = some x) (hr : ∀ e ∈ x.r.All, rightB e.2 = true) (l : Option Addr × Nat) : (⟨i, l, digU x.r 4⟩ : Lt).ok X := by
  have hmem : ∀ v ∈ digU x.r 4, v ∈ ownL x.r.All x.r.me v.nm := by
    intro v hv
    obtain ⟨j, hj, rfl⟩ := List.mem_map.1 hv
    obtain ⟨h1, h2⟩ := lastK_nm (r := x.r) (k := j) (notT (List.mem_filter.1 hj).2)
    rw [h1]; exact h2
  exact ⟨x, hx, digU_len x.r 4, digU_ris x.r, fun v hv => hr _ (ownL_nm (hmem v hv)).2, hmem⟩
theorem good_ris {L : List Vw} (hr : RisV L) (hb : ∀ v ∈ L, rightB v = true) : goodL L = true := by
  unfold goodL
  rw [List.all_eq_true]
  intro i hi
  have hi := List.mem_range.1 hi
  have hg : ∀ j (hj : j < L.length), L.getD j Vw.zero = L[j] := fun j hj => by rw [List.getD_eq_getElem?_getD, List.getElem?_eq_getElem hj]; rfl
  unfold okAt
  rw [hg i hi, hb _ (List.getElem_mem hi), Bool.true_and, Bool.or_eq_true]
  cases i with
  | zero => exact .inl rfl
  | succ k =>
    right
    rw [show k + 1 - 1 = k by omega, hg k (by omega)]
    exact List.pairwise_iff_getElem.1 hr k (k + 1) (by omega) hi (by omega)
theorem take_zero {r : Rv} (h : Sp r) {k : Int} {L : List Vw} (hk : 0 ≤ k ∧ k < r.n ∧ k ≠ r.me) (hl : L.length ≤ 4) (hr : RisV L) (hb : ∀ v ∈ L, rightB v = true) : (r.take k L).2.2 = 0 := by
  have hn := h.names k
  have hf : freshR r.All k L ≤ L.length := by unfold freshR; exact List.countP_le_length
  unfold Rv.take
  rw [if_neg (by omega), if_neg (by omega), if_neg (by rw [good_ris hr hb]; simp), if_neg (by omega)]
theorem take_sp {r : Rv} (h : Sp r) {k : Int} {L : List Vw} (hk : k ≠ r.me) (hL : ∀ v ∈ L, ∃ j, j < 4 ∧ v.nm = nmK j) : Sp (r.take k L).1 := by
  refine ⟨fun nm => ?_, fun e he => ?_⟩
  · rw [last_own, take_own L hk nm, ← last_own]
    exact h.ver nm
  · obtain ⟨m, h1, _, h3, _⟩ := take_app r k L
    rw [h1] at he
    rcases List.mem_append.1 he with he | he
    · exact h.nms e he
    · exact hL _ (h3 e he).2
end
end Go.Proofs.Ytcpecnpnnodfhaa
