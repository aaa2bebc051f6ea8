/- Chapter 9's law: digests. -/
import Derived.Test.YtcpecnpnnodfhaaBnVf
set_option maxRecDepth 100000
set_option linter.unusedSimpArgs false
set_option linter.unusedVariables false
set_option maxHeartbeats 8000000
namespace Go.Proofs.Ytcpecnpnnodfhaa
open Go.RowKit

theorem mixV {A xs : List Value} {B : List Vw} {k : Nat} {x : Vw} (hA : A = vws B) (hB : B.length = k) : (A ++ xs.drop (k * 7)).take (k * 7) ++ x.l ++ (A ++ xs.drop (k * 7)).drop (k * 7 + 7) = vws (B ++ [x]) ++ xs.drop ((k + 1) * 7) := by
  have hl : A.length = k * 7 := by rw [hA, vws_len, hB]
  rw [List.take_append_of_le_length (by omega), List.take_of_length_le (by omega), List.drop_append, List.drop_of_length_le (by omega), List.nil_append, List.drop_drop, hl, show k * 7 + (k * 7 + 7 - k * 7) = (k + 1) * 7 by omega, hA, vws_add]
theorem dgL_next (n : Nat) : dgL (n + 1) = dgL n ++ [⟨{ data := #[] }, 0, 0, -1 - (n : Int), 0, 0, 0⟩] := by simp [dgL, List.range_succ]
def m2L (n : Nat) : List Vw := (List.range n).map fun i : Nat => ⟨{ data := #[] }, 0, 0, -200 - (i : Int), 0, 0, 0⟩
theorem m2L_len (n : Nat) : (m2L n).length = n := by simp [m2L]
theorem m2L_next (n : Nat) : m2L (n + 1) = m2L n ++ [⟨{ data := #[] }, 0, 0, -200 - (n : Int), 0, 0, 0⟩] := by simp [m2L, List.range_succ]
abbrev v99 : Vw := ⟨{ data := #[] }, 0, 0, 99, 0, 0, 0⟩
abbrev xL (n k : Nat) : List Vw := dgL n ++ List.replicate k v99
theorem xL_next (n k : Nat) : vws (xL n k) ++ v99.l = vws (xL n (k + 1)) := by rw [vws_add]; simp [xL, List.replicate_succ']
theorem infoDe : (Try.prog.info? 100).map (fun i => (i.zero, i.size, i.bytes)) = some (some (.agg #[.slice none 0 0, .slice none 0 0, .slice none 0 0]), 3, 72) := by kernel_rfl
theorem elemDe : sliceElem Try.prog 66 = some 100 := by kernel_rfl
theorem digests_ok {b bk n N : Nat} {P : Pq} {B : Bk} (hP : P.ok n N) (hB : B.ok N) (hN : N ≤ 300) : DigC b bk n N P B := by
  intro w hR
  have hI := open_pb (N := 117) (os := [(1, .of [(0, []), (1, []), (2, []), (3, []), (4, []), (5, []), (6, []), (7, []), (8, []), (9, []), (10, []), (11, []), (12, []), (13, []), (14, []), (16, []), (17, []), (18, []), (19, []), (15, [19, 10, 7, 3]), (20, [10, 7, 3]), (21, []), (22, [10, 7, 3]), (23, [3]), (24, []), (25, []), (26, [])])]) hR
  have hP' := hP
  have hB' := hB
  obtain ⟨v, mb, nb, s, q, ⟨oc1, oc2⟩, r, dg, kn⟩ := P
  obtain ⟨dgo, dgc, D, kno, knc, K⟩ := B
  obtain ⟨hrel, hn, hall, hdg, hkn⟩ := hP
  obtain ⟨hdl, hkl, hds, hks⟩ := hB
  dsimp only at hrel hall hdg hkn hdl hkl hds hks
  obtain ⟨ittD, hittD, hptD⟩ := Option.map_eq_some_iff.1 infoDe
  obtain ⟨ittV, hittV, hptV⟩ := Option.map_eq_some_iff.1 infoVw
  simp only [Prod.mk.injEq] at hptD hptV
  have hDl := rDig_len r
  generalize hDL : rDigF r = DL at hDl
  refine calls_sm (cx 117 [(1, .of [(0, []), (1, []), (2, []), (3, []), (4, []), (5, []), (6, []), (7, []), (8, []), (9, []), (10, []), (11, []), (12, []), (13, []), (14, []), (16, []), (17, []), (18, []), (19, []), (15, [19, 10, 7, 3]), (20, [10, 7, 3]), (21, []), (22, [10, 7, 3]), (23, [3]), (24, []), (25, []), (26, [])])] ((pqRes b bk ⟨v, mb, nb, s, q, (oc1, oc2), r, dg, kn⟩).both (bkRes bk ⟨dgo, dgc, D, kno, knc, K⟩)).fp w) (vals := [.ptr 2 0]) mixed Try.func37 rfl rfl rfl hI rfl (st rfl ?_); conv => arg 3; whnf
  refine gw ?_
  refine n_callN (fun y : Option Addr × Nat => vRow y.1 DL.length y.2 (vws DL)) 49 (fun y => .raw (.slice y.1 DL.length y.2)) (fun y => .slice y.1 DL.length y.2) (fun y => 0 < DL.length → ∃ g, y.1 = some ⟨g, 0, none⟩) rfl rfl rfl (fun _ => rfl) (fun w1 hI1 => hDL ▸ dig_row hrel (by omega) (hI1.res 3 rfl rfl)) ?_
  rintro ⟨l0, lc0⟩ _ _
  dsimp only
  (refine gs ?_)
  refine gw ?_
  refine n_callN (fun y : Option Addr × Nat => vRow y.1 DL.length y.2 (vws DL)) 49 (fun y => .raw (.slice y.1 DL.length y.2)) (fun y => .slice y.1 DL.length y.2) (fun _ => True) rfl rfl rfl (fun _ => rfl) (fun w1 hI1 => hDL ▸ rDigest_ok (hI1.res 4 rfl rfl) (by omega)) ?_
  rintro ⟨w0, wc0⟩ _ _
  dsimp only
  (refine gs ?_)
  refine gw ?_
  refine n_build1 rfl rfl elemDe rfl rfl rfl rfl rfl rfl rfl rfl rfl ?_
  (refine gs ?_)
  refine gw ?_
  refine n_append (nv := De.c ⟨(l0, lc0), (w0, wc0), DL⟩) 8 rfl rfl elemDe hittD hptD.1 hptD.2.1 hptD.2.2 rfl (by omega) rfl rfl rfl rfl rfl rfl (by omega) (by simp [Value.oneCell']) (by omega) (by omega) (show D.flatMap De.c ++ _ = (D ++ [(⟨(l0, lc0), (w0, wc0), DL⟩ : De)]).flatMap De.c by simp) fun g c => ?_
  (refine gs ?_)
  refine gw ?_
  refine n_call1 rfl fun b14 => ?_
  refine n_callX [] _ rfl (fun w1 hI1 => (by
    have h := (hI1.absorb 12 13 (by decide) rfl rfl rfl rfl rfl rfl)
    have h2 := h.lessR 12 (ρ' := De.res ⟨(l0, lc0), (w0, wc0), DL⟩) rfl rfl rfl (fun h => ⟨h, fun x hx => hx⟩)
    have h3 := h2.join 10 12 (by decide) rfl rfl rfl rfl rfl rfl (fun h => all_add h)
    rw [List.append_nil]; exact h3)) ?_
  refine n_callN (fun y : Option Addr × Nat => vRow y.1 DL.length y.2 (vws DL)) 49 (fun y => .raw (.slice y.1 DL.length y.2)) (fun y => .slice y.1 DL.length y.2) (fun y => 0 < DL.length → ∃ g, y.1 = some ⟨g, 0, none⟩) rfl rfl rfl (fun _ => rfl) (fun w1 hI1 => hDL ▸ dig_row hrel (by omega) (hI1.res 3 rfl rfl)) ?_
  rintro ⟨l1, lc1⟩ hl1 _
  dsimp only at hl1 ⊢
  (refine gs ?_)
  refine gw ?_
  refine n_callN (fun y : Option Addr × Nat => vRow y.1 DL.length y.2 (vws DL)) 49 (fun y => .raw (.slice y.1 DL.length y.2)) (fun y => .slice y.1 DL.length y.2) (fun y => 0 < DL.length → ∃ g, y.1 = some ⟨g, 0, none⟩) rfl rfl rfl (fun _ => rfl) (fun w1 hI1 => hDL ▸ dig_row hrel (by omega) (hI1.res 3 rfl rfl)) ?_
  rintro ⟨m1, mc1⟩ hm1 _
  dsimp only at hm1 ⊢
  (refine gs ?_)
  refine gw ?_
  refine n_callN (fun y : Option Addr × Nat => vRow y.1 DL.length y.2 (vws DL)) 49 (fun y => .raw (.slice y.1 DL.length y.2)) (fun y => .slice y.1 DL.length y.2) (fun _ => True) rfl rfl rfl (fun _ => rfl) (fun w1 hI1 => hDL ▸ rDigest_ok (hI1.res 4 rfl rfl) (by omega)) ?_
  rintro ⟨w2, wc2⟩ _ _
  dsimp only
  (refine gs ?_)
  refine gw ?_
  refine n_sameP (.lit true) rfl rfl rfl (fun _ w1 hp1 hI1 => all_n lc1 wc2 rfl (rd_of_row (hI1.res 15 rfl rfl)) (rd_of_row (hI1.res 17 rfl rfl)) (by omega)) ?_; (refine gs ?_)
  refine gw ?_
  refine n_sameP (.lit true) rfl rfl rfl (fun _ w1 hp1 hI1 => marked_ok (bk := bk) (P := ⟨v, mb, nb, s, q, (oc1, oc2), r, dg, kn⟩) (by dsimp only; omega) (by dsimp only; omega) (memRes_here hI1 [2, 3, 4, 5, 6] (.blk rfl (pre_at hp1 rfl) (denL_mono hp1 _ _ rfl) rfl (.res rfl (.res rfl (.res rfl (.res rfl .nil))))) (by decide))) ?_; (refine gs ?_)
  refine gw ?_
  have hDv : (vws DL).length = DL.length * 7 := vws_len _
  refine n_loop (σ := Nat) (fun i => [(0, .ptr 2 0), (3, .raw (.slice l1 DL.length lc1)), (4, .raw (.slice m1 DL.length mc1)), (5, .lit true), (6, .int .i64 (i : Nat))]) (fun i => [⟨72, [.res Res.none], true⟩, ⟨69, [.res Res.none], true⟩, ⟨72, [.raw (pV v), .raw (pV q), .raw (.slice dg.1 dg.2.1 dg.2.2), .raw (.slice kn.1 kn.2.1 kn.2.2), .ptr 7 0], true⟩, ⟨84, [.res (viewsRes v mb nb s)], true⟩, ⟨113, [.res (rvRes q oc1 oc2 r)], true⟩, ⟨49, [.res (dgRes dg)], true⟩, ⟨47, [.res (knRes kn)], true⟩,
    ⟨69, [.raw (.slice (some ⟨g, 0, none⟩) (D.length + 1) c), .raw (.slice kno K.length knc)], true⟩, ⟨100, [.res (rowRes 100 3 (some ⟨g, 0, none⟩) (D.length + 1) c ((D ++ [(⟨(l0, lc0), (w0, wc0), DL⟩ : De)]).flatMap De.c))], true⟩, ⟨103, [.res (rowRes 103 3 kno K.length knc (K.flatMap Kn.c))], true⟩, ⟨49, [.res (allRes (D.map De.res ++ [De.res ⟨(l0, lc0), (w0, wc0), DL⟩]))], true⟩, ⟨47, [.res (allRes (K.map Kn.res))], true⟩, ⟨49, [.res Res.none], true⟩, ⟨49, [.res Res.none], true⟩,
    ⟨100, [.raw (.slice l0 DL.length lc0), .raw (.slice w0 DL.length wc0), .raw (.slice none 0 0)], true⟩, ⟨49, [.res (vRow l1 DL.length lc1 (vws (dgL i) ++ (vws DL).drop (i * 7)))], true⟩, ⟨49, [.res (vRow m1 DL.length mc1 (vws DL))], true⟩, ⟨49, [.res (vRow w2 DL.length wc2 (vws DL))], true⟩]) (fun i => i ≤ DL.length) (fun i => DL.length - i) 0 mixed (by omega) (fun _ _ => rfl) rfl (by (repeat (first | exact trivial | refine ⟨⟨rfl, rfl⟩, ?_⟩))) (fun s _ => ⟨by (repeat (first | exact trivial | refine ⟨⟨_, rfl⟩, ?_⟩)), by (repeat (first | exact trivial | refine ⟨⟨_, rfl⟩, ?_⟩))⟩) fun i hi => ?_
  (refine gs ?_)
  by_cases hil : i < DL.length
  · as_aux_lemma =>
    have ei : IntKind.i64.wrap ((i : Int) + 1) = ((i + 1 : Nat) : Int) := by rw [w64 (by omega) (by omega)]; simp
    have em : IntKind.i64.wrap (-1 - (i : Int)) = -1 - (i : Int) := w64 (by omega) (by omega)
    obtain ⟨gl, rfl⟩ := hl1 (by omega)
    (repeat ((first | refine n_must rfl ?_ | refine n_chk (drawF_ok (by decide +kernel)) ?_ | refine n_same rfl ?_ | ((first | refine n_must ?_ ?_ | refine n_brT ?_ ?_); (focus (first | (simp [hil]; done) | (simp [hil]; omega) | (simp only [hil]; simp; done)))) | (refine n_brF ?_ ?_; (focus (first | (simp [hil]; done) | (simp [hil]; omega) | (simp only [hil]; simp; done)))) | refine n_must (by (with_reducible refine and_shape ?_) <;> kernel_rfl) ?_); (refine gs ?_)))
    refine n_storeRow (g := gl) (off := i * 7) (k := 7) (rv := .agg [.str { data := #[] }, .int .i64 0, .int .i64 0, .int .i64 (IntKind.i64.wrap (-1 - (i : Int))), .int .i64 0, .int .i64 0, .int .i64 0]) (v := Vw.val ⟨{ data := #[] }, 0, 0, -1 - (i : Int), 0, 0, 0⟩) 15 (vws (dgL (i + 1)) ++ (vws DL).drop ((i + 1) * 7)) rfl rfl rfl ((show _ = (⟨gl, 0, none⟩ : Addr).add (i * 7) from rfl).trans (by rw [add_mk])) rfl (by rw [em]; rfl) sizeView rfl rfl rfl (by rw [List.length_append, vws_len, dgL_len, List.length_drop, hDv]; omega) (by rw [dgL_next]; exact mixV rfl (dgL_len i)) ?_
    (refine gs ?_)
    refine gw ?_
    exact n_again ⟨i + 1, by omega, by omega, (by (repeat (first | exact trivial | refine ⟨⟨rfl, rfl⟩, ?_⟩ | refine ⟨⟨rfl, congrArg (SV.int .i64) ei⟩, ?_⟩))), ⟨_, rfl⟩⟩
  obtain rfl : i = DL.length := by omega
  rw [List.drop_of_length_le (by omega), List.append_nil]
  (repeat ((first | refine n_must rfl ?_ | refine n_chk (drawF_ok (by decide +kernel)) ?_ | refine n_same rfl ?_ | ((first | refine n_must ?_ ?_ | refine n_brT ?_ ?_); (focus (first | (simp [hil]; done) | (simp [hil]; omega) | (simp only [hil]; simp; done)))) | (refine n_brF ?_ ?_; (focus (first | (simp [hil]; done) | (simp [hil]; omega) | (simp only [hil]; simp; done)))) | refine n_must (by (with_reducible refine and_shape ?_) <;> kernel_rfl) ?_); (refine gs ?_)))
  refine n_exit rfl ?_
  as_aux_lemma =>
  (refine gs ?_)
  refine gw ?_
  refine n_callN (fun y : Option Addr × Nat => vRow y.1 DL.length y.2 (vws DL)) 49 (fun y => .raw (.slice y.1 DL.length y.2)) (fun y => .slice y.1 DL.length y.2) (fun _ => True) rfl rfl rfl (fun _ => rfl) (fun w1 hI1 => hDL ▸ rDigest_ok (hI1.res 4 rfl rfl) (by omega)) ?_
  rintro ⟨w3, wc3⟩ _ _
  dsimp only
  (refine gs ?_)
  refine gw ?_
  refine n_sameP (.lit true) rfl rfl rfl (fun _ w1 hp1 hI1 => all_n mc1 wc3 rfl (rd_of_row (hI1.res 16 rfl rfl)) (rd_of_row (hI1.res 18 rfl rfl)) (by omega)) ?_; (refine gs ?_)
  refine gw ?_
  refine n_loop (σ := Nat) (fun i => [(0, .ptr 2 0), (3, .raw (.slice l1 DL.length lc1)), (4, .raw (.slice m1 DL.length mc1)), (5, .lit true), (7, .int .i64 (i : Nat))]) (fun i => [⟨72, [.res Res.none], true⟩, ⟨69, [.res Res.none], true⟩, ⟨72, [.raw (pV v), .raw (pV q), .raw (.slice dg.1 dg.2.1 dg.2.2), .raw (.slice kn.1 kn.2.1 kn.2.2), .ptr 7 0], true⟩, ⟨84, [.res (viewsRes v mb nb s)], true⟩, ⟨113, [.res (rvRes q oc1 oc2 r)], true⟩, ⟨49, [.res (dgRes dg)], true⟩, ⟨47, [.res (knRes kn)], true⟩,
    ⟨69, [.raw (.slice (some ⟨g, 0, none⟩) (D.length + 1) c), .raw (.slice kno K.length knc)], true⟩, ⟨100, [.res (rowRes 100 3 (some ⟨g, 0, none⟩) (D.length + 1) c ((D ++ [(⟨(l0, lc0), (w0, wc0), DL⟩ : De)]).flatMap De.c))], true⟩, ⟨103, [.res (rowRes 103 3 kno K.length knc (K.flatMap Kn.c))], true⟩, ⟨49, [.res (allRes (D.map De.res ++ [De.res ⟨(l0, lc0), (w0, wc0), DL⟩]))], true⟩, ⟨47, [.res (allRes (K.map Kn.res))], true⟩, ⟨49, [.res Res.none], true⟩, ⟨49, [.res Res.none], true⟩,
    ⟨100, [.raw (.slice l0 DL.length lc0), .raw (.slice w0 DL.length wc0), .raw (.slice none 0 0)], true⟩, ⟨49, [.res (vRow l1 DL.length lc1 (vws (dgL DL.length)))], true⟩, ⟨49, [.res (vRow m1 DL.length mc1 (vws (m2L i) ++ (vws DL).drop (i * 7)))], true⟩, ⟨49, [.res (vRow w2 DL.length wc2 (vws DL))], true⟩, ⟨49, [.res (vRow w3 DL.length wc3 (vws DL))], true⟩]) (fun i => i ≤ DL.length) (fun i => DL.length - i) 0 mixed (by omega) (fun _ _ => rfl) rfl (by (repeat (first | exact trivial | refine ⟨⟨rfl, rfl⟩, ?_⟩))) (fun s _ => ⟨by (repeat (first | exact trivial | refine ⟨⟨_, rfl⟩, ?_⟩)), by (repeat (first | exact trivial | refine ⟨⟨_, rfl⟩, ?_⟩))⟩) fun i hi => ?_
  (refine gs ?_)
  by_cases hil : i < DL.length
  · as_aux_lemma =>
    have ei : IntKind.i64.wrap ((i : Int) + 1) = ((i + 1 : Nat) : Int) := by rw [w64 (by omega) (by omega)]; simp
    have em : IntKind.i64.wrap (-200 - (i : Int)) = -200 - (i : Int) := w64 (by omega) (by omega)
    obtain ⟨gl, rfl⟩ := hm1 (by omega)
    (repeat ((first | refine n_must rfl ?_ | refine n_chk (drawF_ok (by decide +kernel)) ?_ | refine n_same rfl ?_ | ((first | refine n_must ?_ ?_ | refine n_brT ?_ ?_); (focus (first | (simp [hil]; done) | (simp [hil]; omega) | (simp only [hil]; simp; done)))) | (refine n_brF ?_ ?_; (focus (first | (simp [hil]; done) | (simp [hil]; omega) | (simp only [hil]; simp; done)))) | refine n_must (by (with_reducible refine and_shape ?_) <;> kernel_rfl) ?_); (refine gs ?_)))
    refine n_storeRow (g := gl) (off := i * 7) (k := 7) (rv := .agg [.str { data := #[] }, .int .i64 0, .int .i64 0, .int .i64 (IntKind.i64.wrap (-200 - (i : Int))), .int .i64 0, .int .i64 0, .int .i64 0]) (v := Vw.val ⟨{ data := #[] }, 0, 0, -200 - (i : Int), 0, 0, 0⟩) 16 (vws (m2L (i + 1)) ++ (vws DL).drop ((i + 1) * 7)) rfl rfl rfl ((show _ = (⟨gl, 0, none⟩ : Addr).add (i * 7) from rfl).trans (by rw [add_mk])) rfl (by rw [em]; rfl) sizeView rfl rfl rfl (by rw [List.length_append, vws_len, m2L_len, List.length_drop, hDv]; omega) (by rw [m2L_next]; exact mixV rfl (m2L_len i)) ?_
    (refine gs ?_)
    refine gw ?_
    exact n_again ⟨i + 1, by omega, by omega, (by (repeat (first | exact trivial | refine ⟨⟨rfl, rfl⟩, ?_⟩ | refine ⟨⟨rfl, congrArg (SV.int .i64) ei⟩, ?_⟩))), ⟨_, rfl⟩⟩
  obtain rfl : i = DL.length := by omega
  (repeat ((first | refine n_must rfl ?_ | refine n_chk (drawF_ok (by decide +kernel)) ?_ | refine n_same rfl ?_ | ((first | refine n_must ?_ ?_ | refine n_brT ?_ ?_); (focus (first | (simp [hil]; done) | (simp [hil]; omega) | (simp only [hil]; simp; done)))) | (refine n_brF ?_ ?_; (focus (first | (simp [hil]; done) | (simp [hil]; omega) | (simp only [hil]; simp; done)))) | refine n_must (by (with_reducible refine and_shape ?_) <;> kernel_rfl) ?_); (refine gs ?_)))
  refine n_exit rfl ?_
  as_aux_lemma =>
  (refine gs ?_)
  refine gw ?_
  refine n_loopX [] ([⟨72, [.res Res.none], true⟩, ⟨69, [.res Res.none], true⟩, ⟨72, [.raw (pV v), .raw (pV q), .raw (.slice dg.1 dg.2.1 dg.2.2), .raw (.slice kn.1 kn.2.1 kn.2.2), .ptr 7 0], true⟩, ⟨84, [.res (viewsRes v mb nb s)], true⟩, ⟨113, [.res (rvRes q oc1 oc2 r)], true⟩, ⟨49, [.res (dgRes dg)], true⟩, ⟨47, [.res (knRes kn)], true⟩,
    ⟨69, [.raw (.slice (some ⟨g, 0, none⟩) (D.length + 1) c), .raw (.slice kno K.length knc)], true⟩, ⟨100, [.res (rowRes 100 3 (some ⟨g, 0, none⟩) (D.length + 1) c ((D ++ [(⟨(l0, lc0), (w0, wc0), DL⟩ : De)]).flatMap De.c))], true⟩, ⟨103, [.res (rowRes 103 3 kno K.length knc (K.flatMap Kn.c))], true⟩, ⟨49, [.res (allRes (D.map De.res ++ [De.res ⟨(l0, lc0), (w0, wc0), DL⟩]))], true⟩, ⟨47, [.res (allRes (K.map Kn.res))], true⟩, ⟨49, [.res Res.none], true⟩, ⟨49, [.res Res.none], true⟩,
    ⟨100, [.raw (.slice l0 DL.length lc0), .raw (.slice w0 DL.length wc0), .raw (.slice none 0 0)], true⟩, ⟨49, [.res (growRes 49 7 (((0, (l1, lc1), []) : Nat × (Option Addr × Nat) × List (Option Addr × List Value))).2.1.1 (DL.length + (((0, (l1, lc1), []) : Nat × (Option Addr × Nat) × List (Option Addr × List Value))).1) (((0, (l1, lc1), []) : Nat × (Option Addr × Nat) × List (Option Addr × List Value))).2.1.2 (vws (xL DL.length (((0, (l1, lc1), []) : Nat × (Option Addr × Nat) × List (Option Addr × List Value))).1)) (((0, (l1, lc1), []) : Nat × (Option Addr × Nat) × List (Option Addr × List Value))).2.2)], true⟩, ⟨49, [.res (vRow m1 DL.length mc1 (vws (m2L DL.length) ++ (vws DL).drop (DL.length * 7)))], true⟩, ⟨49, [.res (vRow w2 DL.length wc2 (vws DL))], true⟩, ⟨49, [.res (vRow w3 DL.length wc3 (vws DL))], true⟩]) rfl (fun w1 hI1 => by
    have h := hI1.lessR 15 (ρ' := growRes 49 7 l1 (DL.length + 0) lc1 (vws (xL DL.length 0)) []) rfl rfl rfl (fun h => ⟨⟨fun x hx => (by cases hx), by simpa [xL] using h, fun x hx => (by simp [rdsRes] at hx)⟩, fun x hx => by simpa [Res.both, rdsRes] using hx⟩)
    rw [List.append_nil]; exact h) ?_
  rw [List.append_nil]
  refine n_loop (σ := Nat × (Option Addr × Nat) × List (Option Addr × List Value)) (fun t => [(0, .ptr 2 0), (3, .raw (.slice l1 DL.length lc1)), (5, .lit true), (8, .raw (.slice t.2.1.1 (DL.length + t.1) t.2.1.2)), (9, .int .i64 (t.1 : Nat))]) (fun t => [⟨72, [.res Res.none], true⟩, ⟨69, [.res Res.none], true⟩, ⟨72, [.raw (pV v), .raw (pV q), .raw (.slice dg.1 dg.2.1 dg.2.2), .raw (.slice kn.1 kn.2.1 kn.2.2), .ptr 7 0], true⟩, ⟨84, [.res (viewsRes v mb nb s)], true⟩, ⟨113, [.res (rvRes q oc1 oc2 r)], true⟩, ⟨49, [.res (dgRes dg)], true⟩, ⟨47, [.res (knRes kn)], true⟩,
    ⟨69, [.raw (.slice (some ⟨g, 0, none⟩) (D.length + 1) c), .raw (.slice kno K.length knc)], true⟩, ⟨100, [.res (rowRes 100 3 (some ⟨g, 0, none⟩) (D.length + 1) c ((D ++ [(⟨(l0, lc0), (w0, wc0), DL⟩ : De)]).flatMap De.c))], true⟩, ⟨103, [.res (rowRes 103 3 kno K.length knc (K.flatMap Kn.c))], true⟩, ⟨49, [.res (allRes (D.map De.res ++ [De.res ⟨(l0, lc0), (w0, wc0), DL⟩]))], true⟩, ⟨47, [.res (allRes (K.map Kn.res))], true⟩, ⟨49, [.res Res.none], true⟩, ⟨49, [.res Res.none], true⟩,
    ⟨100, [.raw (.slice l0 DL.length lc0), .raw (.slice w0 DL.length wc0), .raw (.slice none 0 0)], true⟩, ⟨49, [.res (growRes 49 7 (t).2.1.1 (DL.length + (t).1) (t).2.1.2 (vws (xL DL.length (t).1)) (t).2.2)], true⟩, ⟨49, [.res (vRow m1 DL.length mc1 (vws (m2L DL.length) ++ (vws DL).drop (DL.length * 7)))], true⟩, ⟨49, [.res (vRow w2 DL.length wc2 (vws DL))], true⟩, ⟨49, [.res (vRow w3 DL.length wc3 (vws DL))], true⟩]) (fun t => t.1 ≤ 80 ∧ Reads ((t.2.1.1, vws (xL DL.length t.1)) :: t.2.2) l1 (vws (dgL DL.length))) (fun t => 80 - t.1) (0, (l1, lc1), []) mixed ⟨by dsimp only; omega, _, List.mem_cons_self .., rfl, by simp [xL]⟩ (fun _ _ => rfl) rfl (by (repeat (first | exact trivial | refine ⟨⟨rfl, rfl⟩, ?_⟩))) (fun s _ => ⟨by (repeat (first | exact trivial | refine ⟨⟨_, rfl⟩, ?_⟩)), by (repeat (first | exact trivial | refine ⟨⟨_, rfl⟩, ?_⟩))⟩) fun t ht => ?_
  obtain ⟨i, ⟨o2, c2⟩, G⟩ := t
  obtain ⟨hi8, hG⟩ := ht
  dsimp only at hi8 hG ⊢
  (refine gs ?_)
  by_cases hil : i < 80
  · as_aux_lemma =>
    have ei : IntKind.i64.wrap ((i : Int) + 1) = ((i + 1 : Nat) : Int) := by rw [w64 (by omega) (by omega)]; simp
    have hil' : (i : Int) < 80 := by omega
    (repeat ((first | refine n_must rfl ?_ | refine n_chk (drawF_ok (by decide +kernel)) ?_ | refine n_same rfl ?_ | ((first | refine n_must ?_ ?_ | refine n_brT ?_ ?_); (focus (first | (simp [hil']; done) | (simp [hil']; omega) | (simp only [hil']; simp; done)))) | (refine n_brF ?_ ?_; (focus (first | (simp [hil']; done) | (simp [hil']; omega) | (simp only [hil']; simp; done)))) | refine n_must (by (with_reducible refine and_shape ?_) <;> kernel_rfl) ?_); (refine gs ?_)))
    refine n_build1 rfl rfl elemVw rfl rfl rfl rfl rfl rfl rfl rfl rfl ?_
    (refine gs ?_)
    refine gw ?_
    refine n_appendK (nv := v99.l) 15 rfl rfl elemVw hittV hptV.1 hptV.2.1 hptV.2.2 rfl (by omega) rfl rfl rfl rfl rfl rfl (by omega) (by simp [Value.oneCell']) (by omega) (by omega) (xL_next DL.length i) fun g2 c3 G2 hG2 => ?_
    (refine gs ?_)
    refine gw ?_
    refine n_again ⟨(i + 1, (some ⟨g2, 0, none⟩, c3), G2), ⟨by dsimp only; omega, ?_⟩, by dsimp only; omega, (by (repeat (first | exact trivial | refine ⟨⟨rfl, rfl⟩, ?_⟩ | refine ⟨⟨rfl, congrArg (SV.int .i64) ei⟩, ?_⟩))), ⟨_, rfl⟩⟩
    dsimp only
    obtain ⟨y, hy, e1, e2⟩ := hG
    rcases hG2 with ⟨rfl, rfl⟩ | rfl
    · rcases List.mem_cons.1 hy with rfl | hy
      · exact ⟨_, List.mem_cons_self .., e1, e2.trans ⟨_, xL_next DL.length i⟩⟩
      · exact ⟨y, List.mem_cons_of_mem _ hy, e1, e2⟩
    · exact ⟨y, List.mem_cons_of_mem _ hy, e1, e2⟩
  obtain rfl : i = 80 := by omega
  have en : IntKind.i64.wrap ((DL.length : Int) + 80) = ((DL.length + 80 : Nat) : Int) := by rw [w64 (by omega) (by omega)]; simp
  (repeat ((first | refine n_must rfl ?_ | refine n_chk (drawF_ok (by decide +kernel)) ?_ | refine n_same rfl ?_ | ((first | refine n_must ?_ ?_ | refine n_brT ?_ ?_); (focus (first | (simp [hil]; done) | (simp [hil]; omega) | (simp only [hil]; simp; done)))) | (refine n_brF ?_ ?_; (focus (first | (simp [hil]; done) | (simp [hil]; omega) | (simp only [hil]; simp; done)))) | refine n_must (by (with_reducible refine and_shape ?_) <;> kernel_rfl) ?_); (refine gs ?_)))
  refine n_exit rfl ?_
  as_aux_lemma =>
  (refine gs ?_)
  (repeat ((first | refine n_must rfl ?_ | refine n_chk (drawF_ok (by decide +kernel)) ?_ | refine n_same rfl ?_ | ((first | refine n_must ?_ ?_ | refine n_brT ?_ ?_); (focus (first | (simp [en]; done) | (simp [en]; omega) | (simp only [en]; simp; done)))) | (refine n_brF ?_ ?_; (focus (first | (simp [en]; done) | (simp [en]; omega) | (simp only [en]; simp; done)))) | refine n_must (by (with_reducible refine and_shape ?_) <;> kernel_rfl) ?_); (refine gs ?_)))
  refine n_callX [] _ rfl (fun w1 hI1 => by
    have h := hI1.lessR 15 (ρ' := dgRes (l1, DL.length, lc1)) rfl rfl rfl (fun h => by
      have ⟨g1, g2⟩ := grow_end h
      exact ⟨hG.rd g1, fun x hx => g2 x (hG.fp x hx)⟩)
    rw [List.append_nil]; exact h) ?_
  refine n_sameP (.lit true) rfl rfl rfl (fun _ w1 hp1 hI1 => marked_ok (bk := bk) (P := ⟨v, mb, nb, s, q, (oc1, oc2), r, (l1, DL.length, lc1), kn⟩) (by dsimp only; omega) (by dsimp only; omega) (memRes_here hI1 [2, 3, 4, 15, 6] (.blk rfl (pre_at hp1 rfl) (denL_mono hp1 _ _ rfl) rfl (.res rfl (.res rfl (.res rfl (.res rfl .nil))))) (by decide))) ?_; (refine gs ?_)
  refine gw ?_
  refine n_ret0 rfl rfl fun ids' w' hp hI' => ⟨(⟨v, mb, nb, s, q, (oc1, oc2), r, (l1, DL.length, lc1), kn⟩, ⟨some ⟨g, 0, none⟩, c, D ++ [⟨(l0, lc0), (w0, wc0), DL⟩], kno, knc, K⟩), rfl, ⟨⟨hrel, hn, by dsimp only; omega, by dsimp only; omega, hkn⟩, ⟨by simp; omega, by dsimp only; omega, fun e he => ?_, hks⟩⟩, ?_⟩
  · rcases List.mem_append.1 he with he | he
    · exact hds e he
    · simp at he; subst he; dsimp only; omega
  have hDe : (D ++ [(⟨(l0, lc0), (w0, wc0), DL⟩ : De)]).length = D.length + 1 := by simp
  have h1 := hI'.lessR 10 (ρ' := allRes ((D ++ [(⟨(l0, lc0), (w0, wc0), DL⟩ : De)]).map De.res)) rfl rfl rfl (fun h => by rw [List.map_append]; exact ⟨h, fun x hx => hx⟩)
  have h2 := h1.lessR 8 (ρ' := rowRes 100 3 (some ⟨g, 0, none⟩) (D ++ [(⟨(l0, lc0), (w0, wc0), DL⟩ : De)]).length c ((D ++ [(⟨(l0, lc0), (w0, wc0), DL⟩ : De)]).flatMap De.c)) rfl rfl rfl (fun h => by rw [hDe]; exact ⟨h, fun x hx => hx⟩)
  have h3 := h2.gather (ids0 := [b, 0, 0, 0, 0]) (mem0 := pqMem bk ⟨v, mb, nb, s, q, (oc1, oc2), r, (l1, DL.length, lc1), kn⟩) [2, 3, 4, 15, 6] (.blk rfl (pre_at hp rfl) (denL_mono hp _ _ rfl) rfl (.res rfl (.res rfl (.res rfl (.res rfl .nil))))) (by decide) 72
  have h4 := h3.gather (ids0 := [bk, 0, 0, 0, 0]) (mem0 := bkMem ⟨some ⟨g, 0, none⟩, c, D ++ [⟨(l0, lc0), (w0, wc0), DL⟩], kno, knc, K⟩) [7, 8, 9, 10, 11] (.blk rfl (pre_at (hp.trans (List.prefix_append _ _)) rfl) rfl (by simp [denL, den]) (.res rfl (.res rfl (.res rfl (.res rfl .nil))))) (by decide) 69
  have h5 := h4.absorb 19 20 (by decide) rfl rfl rfl rfl rfl rfl
  exact post_res h5 rfl 19 rfl rfl rfl
end Go.Proofs.Ytcpecnpnnodfhaa
