/- Chapter 9's law: knows. -/
import Derived.Test.YtcpecnpnnodfhaaBnVf
set_option maxRecDepth 100000
set_option linter.unusedSimpArgs false
set_option linter.unusedVariables false
set_option maxHeartbeats 8000000
namespace Go.Proofs.Ytcpecnpnnodfhaa
open Go.RowKit

theorem mixd_set {α : Type} {A L : List α} {i : Nat} {x : α} (hA : A.length = i) (hi : i < L.length) : (A ++ L.drop i).set i x = A ++ [x] ++ L.drop (i + 1) := by
  rw [List.set_append_right _ _ (by omega), hA, Nat.sub_self, List.drop_eq_getElem_cons hi, List.set_cons_zero]
  simp
theorem mixd_at {α : Type} {A L : List α} {i : Nat} (hA : A.length = i) : (A ++ L.drop i)[i]? = L[i]? := by
  rw [List.getElem?_append_right (by omega), hA, Nat.sub_self, List.getElem?_drop]; rfl
theorem mixd_len {α : Type} {A L : List α} {i : Nat} (hA : A.length = i) (hi : i ≤ L.length) : (A ++ L.drop i).length = L.length := by simp [hA]; omega
theorem knL_next (n : Nat) : knL (n + 1) = knL n ++ [(-1 - (n : Int), -7)] := by simp [knL, List.range_succ]
def m8L (n : Nat) : List (Int × Int) := (List.range n).map fun i : Nat => (-1 - (i : Int), -8)
theorem m8L_len (n : Nat) : (m8L n).length = n := by simp [m8L]
theorem m8L_next (n : Nat) : m8L (n + 1) = m8L n ++ [(-1 - (n : Int), -8)] := by simp [m8L, List.range_succ]
abbrev r99 : Int × Int := (99, 0)
abbrev yL (n k : Nat) : List (Int × Int) := knL n ++ List.replicate k r99
theorem yL_next (n k : Nat) : rts (yL n k) ++ rtL r99 = rts (yL n (k + 1)) := by rw [rts_add]; simp [yL, List.replicate_succ']
theorem infoKn : (Try.prog.info? 103).map (fun i => (i.zero, i.size, i.bytes)) = some (some (.agg #[.slice none 0 0, .slice none 0 0, .slice none 0 0]), 3, 72) := by kernel_rfl
theorem elemKn : sliceElem Try.prog 67 = some 103 := by kernel_rfl
theorem knows_ok {b bk n N : Nat} {P : Pq} {B : Bk} {nm : ByteArray} (hP : P.ok n N) (hB : B.ok N) (hN : N ≤ 300) (hnm : nm.size ≤ maxLen) : KnwC b bk n N P B nm := by
  intro w hR
  have hI := open_pb (N := 156) (os := [(1, .of [(0, []), (1, []), (2, []), (3, []), (4, []), (5, []), (6, []), (7, []), (8, []), (9, []), (10, []), (11, []), (12, []), (13, []), (14, []), (15, []), (17, []), (18, []), (19, []), (20, []), (21, []), (16, [20, 10, 7, 3]), (22, [10, 7, 3]), (23, []), (24, [10, 7, 3]), (25, [3]), (26, []), (27, []), (28, [])])]) hR
  obtain ⟨v, mb, nb, s, q, ⟨oc1, oc2⟩, r, dg, kn⟩ := P
  obtain ⟨dgo, dgc, D, kno, knc, K⟩ := B
  obtain ⟨hrel, hn, hall, hdg, hkn⟩ := hP
  obtain ⟨hdl, hkl, hds, hks⟩ := hB
  dsimp only at hrel hall hdg hkn hdl hkl hds hks
  obtain ⟨ittD, hittD, hptD⟩ := Option.map_eq_some_iff.1 infoKn
  obtain ⟨ittV, hittV, hptV⟩ := Option.map_eq_some_iff.1 infoRt
  simp only [Prod.mk.injEq] at hptD hptV
  have hrn := hrel.rn
  generalize hKL : rKnownL r.All nm n = KL
  have hKl : KL.length = n := by rw [← hKL]; simp [rKnownL]
  subst hKl
  refine calls_sm (cx 156 [(1, .of [(0, []), (1, []), (2, []), (3, []), (4, []), (5, []), (6, []), (7, []), (8, []), (9, []), (10, []), (11, []), (12, []), (13, []), (14, []), (15, []), (17, []), (18, []), (19, []), (20, []), (21, []), (16, [20, 10, 7, 3]), (22, [10, 7, 3]), (23, []), (24, [10, 7, 3]), (25, [3]), (26, []), (27, []), (28, [])])] ((pqRes b bk ⟨v, mb, nb, s, q, (oc1, oc2), r, dg, kn⟩).both (bkRes bk ⟨dgo, dgc, D, kno, knc, K⟩)).fp w) (vals := [.ptr 2 0, .str nm]) mixed Try.func39 rfl rfl rfl hI rfl (st rfl ?_); conv => arg 3; whnf
  refine gw ?_
  refine n_callN (fun y : Nat => rRow (some ⟨y, 0, none⟩) KL.length KL.length (rts KL)) 47 (fun y => .raw (.slice (some ⟨y, 0, none⟩) KL.length KL.length)) (fun y => .slice (some ⟨y, 0, none⟩) KL.length KL.length) (fun _ => True) rfl rfl rfl (fun _ => rfl) (fun w1 hI1 => (knw_row hrel (by omega) nm hnm (hI1.res 3 rfl rfl)).mono fun e w' ⟨y, he, ht, hf⟩ => by
    rw [hKL] at hf
    exact ⟨y, he, ht, hf⟩) ?_
  intro l0 _ _
  (refine gs ?_)
  refine gw ?_
  refine n_callN (fun y : Option Addr × Nat => rRow y.1 KL.length y.2 (rts KL)) 47 (fun y => .raw (.slice y.1 KL.length y.2)) (fun y => .slice y.1 KL.length y.2) (fun y => 0 < KL.length → ∃ g, y.1 = some ⟨g, 0, none⟩) rfl rfl rfl (fun _ => rfl) (fun w1 hI1 => (rKnown_ok (s := r) (hI1.res 4 rfl rfl) (by omega) hrn (by omega) nm).mono fun e w' ⟨y, he, _, hf⟩ => by
    rw [hKL] at hf
    exact ⟨y, he, fun h => rowRes_some' hf.2.1 h, hf⟩) ?_
  rintro ⟨w0, wc0⟩ _ _
  dsimp only
  (refine gs ?_)
  refine gw ?_
  refine n_build1 rfl rfl elemKn rfl rfl rfl rfl rfl rfl rfl rfl rfl ?_
  (refine gs ?_)
  refine gw ?_
  refine n_append (nv := Kn.c ⟨(some ⟨l0, 0, none⟩, KL.length), (w0, wc0), KL⟩) 9 rfl rfl elemKn hittD hptD.1 hptD.2.1 hptD.2.2 rfl (by omega) rfl rfl rfl rfl rfl rfl (by omega) (by simp [Value.oneCell']) (by omega) (by omega) (show K.flatMap Kn.c ++ _ = (K ++ [(⟨(some ⟨l0, 0, none⟩, KL.length), (w0, wc0), KL⟩ : Kn)]).flatMap Kn.c by simp) fun g c => ?_
  (refine gs ?_)
  refine gw ?_
  refine n_call1 rfl fun b14 => ?_
  refine n_callX [] _ rfl (fun w1 hI1 => (by
    have h := (hI1.absorb 12 13 (by decide) rfl rfl rfl rfl rfl rfl)
    have h2 := h.lessR 12 (ρ' := Kn.res ⟨(some ⟨l0, 0, none⟩, KL.length), (w0, wc0), KL⟩) rfl rfl rfl (fun h => ⟨h, fun x hx => hx⟩)
    have h3 := h2.join 11 12 (by decide) rfl rfl rfl rfl rfl rfl (fun h => all_add h)
    rw [List.append_nil]; exact h3)) ?_
  refine n_callN (fun y : Nat => rRow (some ⟨y, 0, none⟩) KL.length KL.length (rts KL)) 47 (fun y => .raw (.slice (some ⟨y, 0, none⟩) KL.length KL.length)) (fun y => .slice (some ⟨y, 0, none⟩) KL.length KL.length) (fun _ => True) rfl rfl rfl (fun _ => rfl) (fun w1 hI1 => (knw_row hrel (by omega) nm hnm (hI1.res 3 rfl rfl)).mono fun e w' ⟨y, he, ht, hf⟩ => by
    rw [hKL] at hf
    exact ⟨y, he, ht, hf⟩) ?_
  intro l1 _ _
  (refine gs ?_)
  refine gw ?_
  refine n_callN (fun y : Nat => rRow (some ⟨y, 0, none⟩) KL.length KL.length (rts KL)) 47 (fun y => .raw (.slice (some ⟨y, 0, none⟩) KL.length KL.length)) (fun y => .slice (some ⟨y, 0, none⟩) KL.length KL.length) (fun _ => True) rfl rfl rfl (fun _ => rfl) (fun w1 hI1 => (knw_row hrel (by omega) nm hnm (hI1.res 3 rfl rfl)).mono fun e w' ⟨y, he, ht, hf⟩ => by
    rw [hKL] at hf
    exact ⟨y, he, ht, hf⟩) ?_
  intro m1 _ _
  (refine gs ?_)
  refine gw ?_
  refine n_callN (fun y : Option Addr × Nat => rRow y.1 KL.length y.2 (rts KL)) 47 (fun y => .raw (.slice y.1 KL.length y.2)) (fun y => .slice y.1 KL.length y.2) (fun y => 0 < KL.length → ∃ g, y.1 = some ⟨g, 0, none⟩) rfl rfl rfl (fun _ => rfl) (fun w1 hI1 => (rKnown_ok (s := r) (hI1.res 4 rfl rfl) (by omega) hrn (by omega) nm).mono fun e w' ⟨y, he, _, hf⟩ => by
    rw [hKL] at hf
    exact ⟨y, he, fun h => rowRes_some' hf.2.1 h, hf⟩) ?_
  rintro ⟨w2, wc2⟩ hw2 _
  dsimp only at hw2 ⊢
  obtain ⟨gw2, rfl⟩ := hw2 (by omega)
  (refine gs ?_)
  refine gw ?_
  refine n_sameP (.lit true) rfl rfl rfl (fun _ w1 hp1 hI1 => marked_ok (bk := bk) (P := ⟨v, mb, nb, s, q, (oc1, oc2), r, dg, kn⟩) (by dsimp only; omega) (by dsimp only; omega) (memRes_here hI1 [2, 3, 4, 5, 6] (.blk rfl (pre_at hp1 rfl) (denL_mono hp1 _ _ rfl) rfl (.res rfl (.res rfl (.res rfl (.res rfl .nil))))) (by decide))) ?_; (refine gs ?_)
  refine gw ?_
  refine n_loop (σ := Nat) (fun i => [(0, .ptr 2 0), (5, .raw (.slice (some ⟨l1, 0, none⟩) KL.length KL.length)), (6, .raw (.slice (some ⟨m1, 0, none⟩) KL.length KL.length)), (7, .raw (.slice (some ⟨gw2, 0, none⟩) KL.length wc2)), (8, .lit true), (9, .int .i64 (i : Nat))]) (fun i => [⟨72, [.res Res.none], true⟩, ⟨69, [.res Res.none], true⟩, ⟨72, [.raw (pV v), .raw (pV q), .raw (.slice dg.1 dg.2.1 dg.2.2), .raw (.slice kn.1 kn.2.1 kn.2.2), .ptr 7 0], true⟩, ⟨84, [.res (viewsRes v mb nb s)], true⟩, ⟨113, [.res (rvRes q oc1 oc2 r)], true⟩, ⟨49, [.res (dgRes dg)], true⟩, ⟨47, [.res (knRes kn)], true⟩,
    ⟨69, [.raw (.slice dgo D.length dgc), .raw (.slice (some ⟨g, 0, none⟩) (K.length + 1) c)], true⟩, ⟨100, [.res (rowRes 100 3 dgo D.length dgc (D.flatMap De.c))], true⟩, ⟨103, [.res (rowRes 103 3 (some ⟨g, 0, none⟩) (K.length + 1) c ((K ++ [(⟨(some ⟨l0, 0, none⟩, KL.length), (w0, wc0), KL⟩ : Kn)]).flatMap Kn.c))], true⟩, ⟨49, [.res (allRes (D.map De.res))], true⟩, ⟨47, [.res (allRes (K.map Kn.res ++ [Kn.res ⟨(some ⟨l0, 0, none⟩, KL.length), (w0, wc0), KL⟩]))], true⟩, ⟨47, [.res Res.none], true⟩, ⟨47, [.res Res.none], true⟩,
    ⟨103, [.raw (.slice (some ⟨l0, 0, none⟩) KL.length KL.length), .raw (.slice w0 KL.length wc0), .raw (.slice none 0 0)], true⟩, ⟨47, [.res (rRow (some ⟨l1, 0, none⟩) KL.length KL.length (rts KL))], true⟩, ⟨47, [.res (rRow (some ⟨m1, 0, none⟩) KL.length KL.length (rts KL))], true⟩, ⟨47, [.res (rRow (some ⟨gw2, 0, none⟩) KL.length wc2 (rts KL))], true⟩]) (fun i => i ≤ KL.length) (fun i => KL.length - i) 0 mixed (by omega) (fun _ _ => rfl) rfl (by (repeat (first | exact trivial | refine ⟨⟨rfl, rfl⟩, ?_⟩))) (fun s _ => ⟨by (repeat (first | exact trivial | refine ⟨⟨_, rfl⟩, ?_⟩)), by (repeat (first | exact trivial | refine ⟨⟨_, rfl⟩, ?_⟩))⟩) fun i hi => ?_
  (refine gs ?_)
  by_cases hil : i < KL.length
  · as_aux_lemma =>
    have ei : IntKind.i64.wrap ((i : Int) + 1) = ((i + 1 : Nat) : Int) := by rw [w64 (by omega) (by omega)]; simp
    have hx : KL[i]? = some KL[i] := List.getElem?_eq_getElem _
    generalize KL[i] = p at hx
    obtain ⟨p1, p2⟩ := p
    (repeat ((first | refine n_must rfl ?_ | refine n_chk (drawF_ok (by decide +kernel)) ?_ | refine n_same rfl ?_ | ((first | refine n_must ?_ ?_ | refine n_brT ?_ ?_); (focus (first | (simp [hil]; done) | (simp [hil]; omega) | (simp only [hil]; simp; done)))) | (refine n_brF ?_ ?_; (focus (first | (simp [hil]; done) | (simp [hil]; omega) | (simp only [hil]; simp; done)))) | refine n_must (by (with_reducible refine and_shape ?_) <;> kernel_rfl) ?_); (refine gs ?_)))
    (refine n_ldA (.agg [.int .i64 p1, .int .i64 p2]) rfl (by first | exact trivial | rfl) rfl (fun _ w1 _ hI1 => rt_row (rd_of_row (hI1.res 15 rfl rfl)) hx rfl) ?_; (refine gs ?_))
    (repeat ((first | refine n_must rfl ?_ | refine n_chk (drawF_ok (by decide +kernel)) ?_ | refine n_same rfl ?_ | ((first | refine n_must ?_ ?_ | refine n_brT ?_ ?_); (focus (first | (simp [hil]; done) | (simp [hil]; omega) | (simp only [hil]; simp; done)))) | (refine n_brF ?_ ?_; (focus (first | (simp [hil]; done) | (simp [hil]; omega) | (simp only [hil]; simp; done)))) | refine n_must (by (with_reducible refine and_shape ?_) <;> kernel_rfl) ?_); (refine gs ?_)))
    (refine n_ldA (.agg [.int .i64 p1, .int .i64 p2]) rfl (by first | exact trivial | rfl) rfl (fun _ w1 _ hI1 => rt_row (rd_of_row (hI1.res 17 rfl rfl)) hx rfl) ?_; (refine gs ?_))
    refine gw ?_
    refine n_sameP (.lit true) rfl rfl rfl (fun _ w1 hp1 hI1 => (sameR_ok (p1, p2) (p1, p2) w1).mono fun e w' ⟨he, hf⟩ => ⟨by rw [he]; simp, hf⟩) ?_; (refine gs ?_)
    refine gw ?_
    exact n_again ⟨i + 1, by omega, by omega, (by (repeat (first | exact trivial | refine ⟨⟨rfl, rfl⟩, ?_⟩ | refine ⟨⟨rfl, congrArg (SV.int .i64) ei⟩, ?_⟩))), ⟨_, rfl⟩⟩
  have hie : i = KL.length := by omega
  clear hi
  (repeat ((first | refine n_must rfl ?_ | refine n_chk (drawF_ok (by decide +kernel)) ?_ | refine n_same rfl ?_ | ((first | refine n_must ?_ ?_ | refine n_brT ?_ ?_); (focus (first | (simp [hil]; done) | (simp [hil]; omega) | (simp only [hil]; simp; done)))) | (refine n_brF ?_ ?_; (focus (first | (simp [hil]; done) | (simp [hil]; omega) | (simp only [hil]; simp; done)))) | refine n_must (by (with_reducible refine and_shape ?_) <;> kernel_rfl) ?_); (refine gs ?_)))
  refine n_exit rfl ?_
  as_aux_lemma =>
  clear hil hie
  (refine gs ?_)
  refine gw ?_
  refine n_loop (σ := Nat) (fun i => [(0, .ptr 2 0), (5, .raw (.slice (some ⟨l1, 0, none⟩) KL.length KL.length)), (6, .raw (.slice (some ⟨m1, 0, none⟩) KL.length KL.length)), (7, .raw (.slice (some ⟨gw2, 0, none⟩) KL.length wc2)), (8, .lit true), (10, .int .i64 (i : Nat))]) (fun i => [⟨72, [.res Res.none], true⟩, ⟨69, [.res Res.none], true⟩, ⟨72, [.raw (pV v), .raw (pV q), .raw (.slice dg.1 dg.2.1 dg.2.2), .raw (.slice kn.1 kn.2.1 kn.2.2), .ptr 7 0], true⟩, ⟨84, [.res (viewsRes v mb nb s)], true⟩, ⟨113, [.res (rvRes q oc1 oc2 r)], true⟩, ⟨49, [.res (dgRes dg)], true⟩, ⟨47, [.res (knRes kn)], true⟩,
    ⟨69, [.raw (.slice dgo D.length dgc), .raw (.slice (some ⟨g, 0, none⟩) (K.length + 1) c)], true⟩, ⟨100, [.res (rowRes 100 3 dgo D.length dgc (D.flatMap De.c))], true⟩, ⟨103, [.res (rowRes 103 3 (some ⟨g, 0, none⟩) (K.length + 1) c ((K ++ [(⟨(some ⟨l0, 0, none⟩, KL.length), (w0, wc0), KL⟩ : Kn)]).flatMap Kn.c))], true⟩, ⟨49, [.res (allRes (D.map De.res))], true⟩, ⟨47, [.res (allRes (K.map Kn.res ++ [Kn.res ⟨(some ⟨l0, 0, none⟩, KL.length), (w0, wc0), KL⟩]))], true⟩, ⟨47, [.res Res.none], true⟩, ⟨47, [.res Res.none], true⟩,
    ⟨103, [.raw (.slice (some ⟨l0, 0, none⟩) KL.length KL.length), .raw (.slice w0 KL.length wc0), .raw (.slice none 0 0)], true⟩, ⟨47, [.res (rRow (some ⟨l1, 0, none⟩) KL.length KL.length (rts (knL i ++ KL.drop i)))], true⟩, ⟨47, [.res (rRow (some ⟨m1, 0, none⟩) KL.length KL.length (rts KL))], true⟩, ⟨47, [.res (rRow (some ⟨gw2, 0, none⟩) KL.length wc2 (rts KL))], true⟩]) (fun i => i ≤ KL.length) (fun i => KL.length - i) 0 mixed (by omega) (fun _ _ => rfl) rfl (by (repeat (first | exact trivial | refine ⟨⟨rfl, rfl⟩, ?_⟩))) (fun s _ => ⟨by (repeat (first | exact trivial | refine ⟨⟨_, rfl⟩, ?_⟩)), by (repeat (first | exact trivial | refine ⟨⟨_, rfl⟩, ?_⟩))⟩) fun j hj => ?_
  (refine gs ?_)
  by_cases hjl : j < KL.length
  · as_aux_lemma =>
    have ei : IntKind.i64.wrap ((j : Int) + 1) = ((j + 1 : Nat) : Int) := by rw [w64 (by omega) (by omega)]; simp
    have em : IntKind.i64.wrap (-1 - (j : Int)) = -1 - (j : Int) := w64 (by omega) (by omega)
    have hml := mixd_len (knL_len j) (Nat.le_of_lt hjl)
    (repeat ((first | refine n_must rfl ?_ | refine n_chk (drawF_ok (by decide +kernel)) ?_ | refine n_same rfl ?_ | ((first | refine n_must ?_ ?_ | refine n_brT ?_ ?_); (focus (first | (simp [hjl]; done) | (simp [hjl]; omega) | (simp only [hjl]; simp; done)))) | (refine n_brF ?_ ?_; (focus (first | (simp [hjl]; done) | (simp [hjl]; omega) | (simp only [hjl]; simp; done)))) | refine n_must (by (with_reducible refine and_shape ?_) <;> kernel_rfl) ?_); (refine gs ?_)))
    refine n_storeRow (g := l1) (off := j * 2) (k := 2) (rv := .agg [.int .i64 (IntKind.i64.wrap (-1 - (j : Int))), .int .i64 (-7)]) (v := rtA (-1 - (j : Int), -7)) 15 (rts (knL (j + 1) ++ KL.drop (j + 1))) rfl rfl rfl ((show _ = (⟨l1, 0, none⟩ : Addr).add (j * 2) from rfl).trans (by rw [add_mk])) rfl (by rw [em]; rfl) sizeRt rfl rfl rfl (by rw [rts_len, hml]; omega) ((flat_set (f := rtL) (x := (-1 - (j : Int), -7)) rt_len (by rw [hml]; exact hjl)).trans (by rw [mixd_set (knL_len j) hjl, knL_next])) ?_
    (refine gs ?_)
    refine gw ?_
    exact n_again ⟨j + 1, by omega, by omega, (by (repeat (first | exact trivial | refine ⟨⟨rfl, rfl⟩, ?_⟩ | refine ⟨⟨rfl, congrArg (SV.int .i64) ei⟩, ?_⟩))), ⟨_, rfl⟩⟩
  obtain rfl : j = KL.length := by omega
  rw [List.drop_length, List.append_nil]
  (repeat ((first | refine n_must rfl ?_ | refine n_chk (drawF_ok (by decide +kernel)) ?_ | refine n_same rfl ?_ | ((first | refine n_must ?_ ?_ | refine n_brT ?_ ?_); (focus (first | (simp [hjl]; done) | (simp [hjl]; omega) | (simp only [hjl]; simp; done)))) | (refine n_brF ?_ ?_; (focus (first | (simp [hjl]; done) | (simp [hjl]; omega) | (simp only [hjl]; simp; done)))) | refine n_must (by (with_reducible refine and_shape ?_) <;> kernel_rfl) ?_); (refine gs ?_)))
  refine n_exit rfl ?_
  as_aux_lemma =>
  (refine gs ?_)
  refine gw ?_
  refine n_loop (σ := Nat) (fun i => [(0, .ptr 2 0), (5, .raw (.slice (some ⟨l1, 0, none⟩) KL.length KL.length)), (6, .raw (.slice (some ⟨m1, 0, none⟩) KL.length KL.length)), (7, .raw (.slice (some ⟨gw2, 0, none⟩) KL.length wc2)), (8, .lit true), (11, .int .i64 (i : Nat))]) (fun i => [⟨72, [.res Res.none], true⟩, ⟨69, [.res Res.none], true⟩, ⟨72, [.raw (pV v), .raw (pV q), .raw (.slice dg.1 dg.2.1 dg.2.2), .raw (.slice kn.1 kn.2.1 kn.2.2), .ptr 7 0], true⟩, ⟨84, [.res (viewsRes v mb nb s)], true⟩, ⟨113, [.res (rvRes q oc1 oc2 r)], true⟩, ⟨49, [.res (dgRes dg)], true⟩, ⟨47, [.res (knRes kn)], true⟩,
    ⟨69, [.raw (.slice dgo D.length dgc), .raw (.slice (some ⟨g, 0, none⟩) (K.length + 1) c)], true⟩, ⟨100, [.res (rowRes 100 3 dgo D.length dgc (D.flatMap De.c))], true⟩, ⟨103, [.res (rowRes 103 3 (some ⟨g, 0, none⟩) (K.length + 1) c ((K ++ [(⟨(some ⟨l0, 0, none⟩, KL.length), (w0, wc0), KL⟩ : Kn)]).flatMap Kn.c))], true⟩, ⟨49, [.res (allRes (D.map De.res))], true⟩, ⟨47, [.res (allRes (K.map Kn.res ++ [Kn.res ⟨(some ⟨l0, 0, none⟩, KL.length), (w0, wc0), KL⟩]))], true⟩, ⟨47, [.res Res.none], true⟩, ⟨47, [.res Res.none], true⟩,
    ⟨103, [.raw (.slice (some ⟨l0, 0, none⟩) KL.length KL.length), .raw (.slice w0 KL.length wc0), .raw (.slice none 0 0)], true⟩, ⟨47, [.res (rRow (some ⟨l1, 0, none⟩) KL.length KL.length (rts (knL KL.length)))], true⟩, ⟨47, [.res (rRow (some ⟨m1, 0, none⟩) KL.length KL.length (rts (m8L i ++ KL.drop i)))], true⟩, ⟨47, [.res (rRow (some ⟨gw2, 0, none⟩) KL.length wc2 (rts KL))], true⟩]) (fun i => i ≤ KL.length) (fun i => KL.length - i) 0 mixed (by omega) (fun _ _ => rfl) rfl (by (repeat (first | exact trivial | refine ⟨⟨rfl, rfl⟩, ?_⟩))) (fun s _ => ⟨by (repeat (first | exact trivial | refine ⟨⟨_, rfl⟩, ?_⟩)), by (repeat (first | exact trivial | refine ⟨⟨_, rfl⟩, ?_⟩))⟩) fun j hj => ?_
  (refine gs ?_)
  by_cases hjl : j < KL.length
  · as_aux_lemma =>
    have ei : IntKind.i64.wrap ((j : Int) + 1) = ((j + 1 : Nat) : Int) := by rw [w64 (by omega) (by omega)]; simp
    have em : IntKind.i64.wrap (-1 - (j : Int)) = -1 - (j : Int) := w64 (by omega) (by omega)
    have hml := mixd_len (m8L_len j) (Nat.le_of_lt hjl)
    have hx : KL[j]? = some KL[j] := List.getElem?_eq_getElem _
    have hx2 := (mixd_at (L := KL) (m8L_len j)).trans hx
    generalize KL[j] = p at hx hx2
    obtain ⟨p1, p2⟩ := p
    (repeat ((first | refine n_must rfl ?_ | refine n_chk (drawF_ok (by decide +kernel)) ?_ | refine n_same rfl ?_ | ((first | refine n_must ?_ ?_ | refine n_brT ?_ ?_); (focus (first | (simp [hjl]; done) | (simp [hjl]; omega) | (simp only [hjl]; simp; done)))) | (refine n_brF ?_ ?_; (focus (first | (simp [hjl]; done) | (simp [hjl]; omega) | (simp only [hjl]; simp; done)))) | refine n_must (by (with_reducible refine and_shape ?_) <;> kernel_rfl) ?_); (refine gs ?_)))
    (refine n_ldA (.agg [.int .i64 p1, .int .i64 p2]) rfl (by first | exact trivial | rfl) rfl (fun _ w1 _ hI1 => rt_row (rd_of_row (hI1.res 16 rfl rfl)) hx2 rfl) ?_; (refine gs ?_))
    (repeat ((first | refine n_must rfl ?_ | refine n_chk (drawF_ok (by decide +kernel)) ?_ | refine n_same rfl ?_ | ((first | refine n_must ?_ ?_ | refine n_brT ?_ ?_); (focus (first | (simp [hjl]; done) | (simp [hjl]; omega) | (simp only [hjl]; simp; done)))) | (refine n_brF ?_ ?_; (focus (first | (simp [hjl]; done) | (simp [hjl]; omega) | (simp only [hjl]; simp; done)))) | refine n_must (by (with_reducible refine and_shape ?_) <;> kernel_rfl) ?_); (refine gs ?_)))
    (refine n_ldA (.agg [.int .i64 p1, .int .i64 p2]) rfl (by first | exact trivial | rfl) rfl (fun _ w1 _ hI1 => rt_row (rd_of_row (hI1.res 17 rfl rfl)) hx rfl) ?_; (refine gs ?_))
    refine gw ?_
    refine n_sameP (.lit true) rfl rfl rfl (fun _ w1 hp1 hI1 => (sameR_ok (p1, p2) (p1, p2) w1).mono fun e w' ⟨he, hf⟩ => ⟨by rw [he]; simp, hf⟩) ?_; (refine gs ?_)
    (repeat ((first | refine n_must rfl ?_ | refine n_chk (drawF_ok (by decide +kernel)) ?_ | refine n_same rfl ?_ | ((first | refine n_must ?_ ?_ | refine n_brT ?_ ?_); (focus (first | (simp [hjl]; done) | (simp [hjl]; omega) | (simp only [hjl]; simp; done)))) | (refine n_brF ?_ ?_; (focus (first | (simp [hjl]; done) | (simp [hjl]; omega) | (simp only [hjl]; simp; done)))) | refine n_must (by (with_reducible refine and_shape ?_) <;> kernel_rfl) ?_); (refine gs ?_)))
    refine n_storeRow (g := m1) (off := j * 2) (k := 2) (rv := .agg [.int .i64 (IntKind.i64.wrap (-1 - (j : Int))), .int .i64 (-8)]) (v := rtA (-1 - (j : Int), -8)) 16 (rts (m8L (j + 1) ++ KL.drop (j + 1))) rfl rfl rfl ((show _ = (⟨m1, 0, none⟩ : Addr).add (j * 2) from rfl).trans (by rw [add_mk])) rfl (by rw [em]; rfl) sizeRt rfl rfl rfl (by rw [rts_len, hml]; omega) ((flat_set (f := rtL) (x := (-1 - (j : Int), -8)) rt_len (by rw [hml]; exact hjl)).trans (by rw [mixd_set (m8L_len j) hjl, m8L_next])) ?_
    (refine gs ?_)
    refine gw ?_
    exact n_again ⟨j + 1, by omega, by omega, (by (repeat (first | exact trivial | refine ⟨⟨rfl, rfl⟩, ?_⟩ | refine ⟨⟨rfl, congrArg (SV.int .i64) ei⟩, ?_⟩))), ⟨_, rfl⟩⟩
  obtain rfl : j = KL.length := by omega
  rw [List.drop_length, List.append_nil]
  (repeat ((first | refine n_must rfl ?_ | refine n_chk (drawF_ok (by decide +kernel)) ?_ | refine n_same rfl ?_ | ((first | refine n_must ?_ ?_ | refine n_brT ?_ ?_); (focus (first | (simp [hjl]; done) | (simp [hjl]; omega) | (simp only [hjl]; simp; done)))) | (refine n_brF ?_ ?_; (focus (first | (simp [hjl]; done) | (simp [hjl]; omega) | (simp only [hjl]; simp; done)))) | refine n_must (by (with_reducible refine and_shape ?_) <;> kernel_rfl) ?_); (refine gs ?_)))
  refine n_exit rfl ?_
  as_aux_lemma =>
  (refine gs ?_)
  refine gw ?_
  refine n_loopX [] ([⟨72, [.res Res.none], true⟩, ⟨69, [.res Res.none], true⟩, ⟨72, [.raw (pV v), .raw (pV q), .raw (.slice dg.1 dg.2.1 dg.2.2), .raw (.slice kn.1 kn.2.1 kn.2.2), .ptr 7 0], true⟩, ⟨84, [.res (viewsRes v mb nb s)], true⟩, ⟨113, [.res (rvRes q oc1 oc2 r)], true⟩, ⟨49, [.res (dgRes dg)], true⟩, ⟨47, [.res (knRes kn)], true⟩,
    ⟨69, [.raw (.slice dgo D.length dgc), .raw (.slice (some ⟨g, 0, none⟩) (K.length + 1) c)], true⟩, ⟨100, [.res (rowRes 100 3 dgo D.length dgc (D.flatMap De.c))], true⟩, ⟨103, [.res (rowRes 103 3 (some ⟨g, 0, none⟩) (K.length + 1) c ((K ++ [(⟨(some ⟨l0, 0, none⟩, KL.length), (w0, wc0), KL⟩ : Kn)]).flatMap Kn.c))], true⟩, ⟨49, [.res (allRes (D.map De.res))], true⟩, ⟨47, [.res (allRes (K.map Kn.res ++ [Kn.res ⟨(some ⟨l0, 0, none⟩, KL.length), (w0, wc0), KL⟩]))], true⟩, ⟨47, [.res Res.none], true⟩, ⟨47, [.res Res.none], true⟩,
    ⟨103, [.raw (.slice (some ⟨l0, 0, none⟩) KL.length KL.length), .raw (.slice w0 KL.length wc0), .raw (.slice none 0 0)], true⟩, ⟨47, [.res (growRes 47 2 (((0, (some ⟨l1, 0, none⟩, KL.length), []) : Nat × (Option Addr × Nat) × List (Option Addr × List Value))).2.1.1 (KL.length + (((0, (some ⟨l1, 0, none⟩, KL.length), []) : Nat × (Option Addr × Nat) × List (Option Addr × List Value))).1) (((0, (some ⟨l1, 0, none⟩, KL.length), []) : Nat × (Option Addr × Nat) × List (Option Addr × List Value))).2.1.2 (rts (yL KL.length (((0, (some ⟨l1, 0, none⟩, KL.length), []) : Nat × (Option Addr × Nat) × List (Option Addr × List Value))).1)) (((0, (some ⟨l1, 0, none⟩, KL.length), []) : Nat × (Option Addr × Nat) × List (Option Addr × List Value))).2.2)], true⟩, ⟨47, [.res (rRow (some ⟨m1, 0, none⟩) KL.length KL.length (rts (m8L KL.length)))], true⟩, ⟨47, [.res (rRow (some ⟨gw2, 0, none⟩) KL.length wc2 (rts KL))], true⟩]) rfl (fun w1 hI1 => by
    have h := hI1.lessR 15 (ρ' := growRes 47 2 (some ⟨l1, 0, none⟩) (KL.length + 0) KL.length (rts (yL KL.length 0)) []) rfl rfl rfl (fun h => ⟨⟨fun x hx => (by cases hx), by simpa [yL] using h, fun x hx => (by simp [rdsRes] at hx)⟩, fun x hx => by simpa [Res.both, rdsRes] using hx⟩)
    rw [List.append_nil]; exact h) ?_
  rw [List.append_nil]
  refine n_loop (σ := Nat × (Option Addr × Nat) × List (Option Addr × List Value)) (fun t => [(0, .ptr 2 0), (5, .raw (.slice (some ⟨l1, 0, none⟩) KL.length KL.length)), (8, .lit true), (12, .raw (.slice t.2.1.1 (KL.length + t.1) t.2.1.2)), (13, .int .i64 (t.1 : Nat))]) (fun t => [⟨72, [.res Res.none], true⟩, ⟨69, [.res Res.none], true⟩, ⟨72, [.raw (pV v), .raw (pV q), .raw (.slice dg.1 dg.2.1 dg.2.2), .raw (.slice kn.1 kn.2.1 kn.2.2), .ptr 7 0], true⟩, ⟨84, [.res (viewsRes v mb nb s)], true⟩, ⟨113, [.res (rvRes q oc1 oc2 r)], true⟩, ⟨49, [.res (dgRes dg)], true⟩, ⟨47, [.res (knRes kn)], true⟩,
    ⟨69, [.raw (.slice dgo D.length dgc), .raw (.slice (some ⟨g, 0, none⟩) (K.length + 1) c)], true⟩, ⟨100, [.res (rowRes 100 3 dgo D.length dgc (D.flatMap De.c))], true⟩, ⟨103, [.res (rowRes 103 3 (some ⟨g, 0, none⟩) (K.length + 1) c ((K ++ [(⟨(some ⟨l0, 0, none⟩, KL.length), (w0, wc0), KL⟩ : Kn)]).flatMap Kn.c))], true⟩, ⟨49, [.res (allRes (D.map De.res))], true⟩, ⟨47, [.res (allRes (K.map Kn.res ++ [Kn.res ⟨(some ⟨l0, 0, none⟩, KL.length), (w0, wc0), KL⟩]))], true⟩, ⟨47, [.res Res.none], true⟩, ⟨47, [.res Res.none], true⟩,
    ⟨103, [.raw (.slice (some ⟨l0, 0, none⟩) KL.length KL.length), .raw (.slice w0 KL.length wc0), .raw (.slice none 0 0)], true⟩, ⟨47, [.res (growRes 47 2 (t).2.1.1 (KL.length + (t).1) (t).2.1.2 (rts (yL KL.length (t).1)) (t).2.2)], true⟩, ⟨47, [.res (rRow (some ⟨m1, 0, none⟩) KL.length KL.length (rts (m8L KL.length)))], true⟩, ⟨47, [.res (rRow (some ⟨gw2, 0, none⟩) KL.length wc2 (rts KL))], true⟩]) (fun t => t.1 ≤ 80 ∧ Reads ((t.2.1.1, rts (yL KL.length t.1)) :: t.2.2) (some ⟨l1, 0, none⟩) (rts (knL KL.length))) (fun t => 80 - t.1) (0, (some ⟨l1, 0, none⟩, KL.length), []) mixed ⟨by dsimp only; omega, _, List.mem_cons_self .., rfl, by simp [yL]⟩ (fun _ _ => rfl) rfl (by (repeat (first | exact trivial | refine ⟨⟨rfl, rfl⟩, ?_⟩))) (fun s _ => ⟨by (repeat (first | exact trivial | refine ⟨⟨_, rfl⟩, ?_⟩)), by (repeat (first | exact trivial | refine ⟨⟨_, rfl⟩, ?_⟩))⟩) fun t ht => ?_
  obtain ⟨i, ⟨o2, c2⟩, G⟩ := t
  obtain ⟨hi8, hG⟩ := ht
  dsimp only at hi8 hG ⊢
  (refine gs ?_)
  by_cases hil : i < 80
  · as_aux_lemma =>
    have ei : IntKind.i64.wrap ((i : Int) + 1) = ((i + 1 : Nat) : Int) := by rw [w64 (by omega) (by omega)]; simp
    have hil' : (i : Int) < 80 := by omega
    (repeat ((first | refine n_must rfl ?_ | refine n_chk (drawF_ok (by decide +kernel)) ?_ | refine n_same rfl ?_ | ((first | refine n_must ?_ ?_ | refine n_brT ?_ ?_); (focus (first | (simp [hil']; done) | (simp [hil']; omega) | (simp only [hil']; simp; done)))) | (refine n_brF ?_ ?_; (focus (first | (simp [hil']; done) | (simp [hil']; omega) | (simp only [hil']; simp; done)))) | refine n_must (by (with_reducible refine and_shape ?_) <;> kernel_rfl) ?_); (refine gs ?_)))
    refine n_build1 rfl rfl elemRt9 rfl rfl rfl rfl rfl rfl rfl rfl rfl ?_
    (refine gs ?_)
    refine gw ?_
    refine n_appendK (nv := rtL r99) 15 rfl rfl elemRt9 hittV hptV.1 hptV.2.1 hptV.2.2 rfl (by omega) rfl rfl rfl rfl rfl rfl (by omega) (by simp [Value.oneCell']) (by omega) (by omega) (yL_next KL.length i) fun g2 c3 G2 hG2 => ?_
    (refine gs ?_)
    refine gw ?_
    refine n_again ⟨(i + 1, (some ⟨g2, 0, none⟩, c3), G2), ⟨by dsimp only; omega, ?_⟩, by dsimp only; omega, (by (repeat (first | exact trivial | refine ⟨⟨rfl, rfl⟩, ?_⟩ | refine ⟨⟨rfl, congrArg (SV.int .i64) ei⟩, ?_⟩))), ⟨_, rfl⟩⟩
    dsimp only
    obtain ⟨y, hy, e1, e2⟩ := hG
    rcases hG2 with ⟨rfl, rfl⟩ | rfl
    · rcases List.mem_cons.1 hy with rfl | hy
      · exact ⟨_, List.mem_cons_self .., e1, e2.trans ⟨_, yL_next KL.length i⟩⟩
      · exact ⟨y, List.mem_cons_of_mem _ hy, e1, e2⟩
    · exact ⟨y, List.mem_cons_of_mem _ hy, e1, e2⟩
  obtain rfl : i = 80 := by omega
  have en : IntKind.i64.wrap ((KL.length : Int) + 80) = ((KL.length + 80 : Nat) : Int) := by rw [w64 (by omega) (by omega)]; simp
  (repeat ((first | refine n_must rfl ?_ | refine n_chk (drawF_ok (by decide +kernel)) ?_ | refine n_same rfl ?_ | ((first | refine n_must ?_ ?_ | refine n_brT ?_ ?_); (focus (first | (simp [hil]; done) | (simp [hil]; omega) | (simp only [hil]; simp; done)))) | (refine n_brF ?_ ?_; (focus (first | (simp [hil]; done) | (simp [hil]; omega) | (simp only [hil]; simp; done)))) | refine n_must (by (with_reducible refine and_shape ?_) <;> kernel_rfl) ?_); (refine gs ?_)))
  refine n_exit rfl ?_
  as_aux_lemma =>
  (refine gs ?_)
  (repeat ((first | refine n_must rfl ?_ | refine n_chk (drawF_ok (by decide +kernel)) ?_ | refine n_same rfl ?_ | ((first | refine n_must ?_ ?_ | refine n_brT ?_ ?_); (focus (first | (simp [en]; done) | (simp [en]; omega) | (simp only [en]; simp; done)))) | (refine n_brF ?_ ?_; (focus (first | (simp [en]; done) | (simp [en]; omega) | (simp only [en]; simp; done)))) | refine n_must (by (with_reducible refine and_shape ?_) <;> kernel_rfl) ?_); (refine gs ?_)))
  refine n_callX [] _ rfl (fun w1 hI1 => by
    have h := hI1.lessR 15 (ρ' := knRes (some ⟨l1, 0, none⟩, KL.length, KL.length)) rfl rfl rfl (fun h => by
      have ⟨g1, g2⟩ := grow_end h
      exact ⟨hG.rd g1, fun x hx => g2 x (hG.fp x hx)⟩)
    rw [List.append_nil]; exact h) ?_
  refine n_sameP (.lit true) rfl rfl rfl (fun _ w1 hp1 hI1 => marked_ok (bk := bk) (P := ⟨v, mb, nb, s, q, (oc1, oc2), r, dg, (some ⟨l1, 0, none⟩, KL.length, KL.length)⟩) (by dsimp only; omega) (by dsimp only; omega) (memRes_here hI1 [2, 3, 4, 5, 15] (.blk rfl (pre_at hp1 rfl) (denL_mono hp1 _ _ rfl) rfl (.res rfl (.res rfl (.res rfl (.res rfl .nil))))) (by decide))) ?_; (refine gs ?_)
  refine gw ?_
  refine n_ret0 rfl rfl fun ids' w' hp hI' => ⟨(⟨v, mb, nb, s, q, (oc1, oc2), r, dg, (some ⟨l1, 0, none⟩, KL.length, KL.length)⟩, ⟨dgo, dgc, D, some ⟨g, 0, none⟩, c, K ++ [⟨(some ⟨l0, 0, none⟩, KL.length), (w0, wc0), KL⟩]⟩), rfl, ⟨⟨hrel, hn, by dsimp only; omega, hdg, by dsimp only; omega⟩, ⟨by dsimp only; omega, by simp; omega, hds, fun e he => ?_⟩⟩, ?_⟩
  · rcases List.mem_append.1 he with he | he
    · exact hks e he
    · simp at he; subst he; dsimp only; omega
  as_aux_lemma =>
  have hDe : (K ++ [(⟨(some ⟨l0, 0, none⟩, KL.length), (w0, wc0), KL⟩ : Kn)]).length = K.length + 1 := by simp
  have h1 := hI'.lessR 11 (ρ' := allRes ((K ++ [(⟨(some ⟨l0, 0, none⟩, KL.length), (w0, wc0), KL⟩ : Kn)]).map Kn.res)) rfl rfl rfl (fun h => by rw [List.map_append]; exact ⟨h, fun x hx => hx⟩)
  have h2 := h1.lessR 9 (ρ' := rowRes 103 3 (some ⟨g, 0, none⟩) (K ++ [(⟨(some ⟨l0, 0, none⟩, KL.length), (w0, wc0), KL⟩ : Kn)]).length c ((K ++ [(⟨(some ⟨l0, 0, none⟩, KL.length), (w0, wc0), KL⟩ : Kn)]).flatMap Kn.c)) rfl rfl rfl (fun h => by rw [hDe]; exact ⟨h, fun x hx => hx⟩)
  have h3 := h2.gather (ids0 := [b, 0, 0, 0, 0]) (mem0 := pqMem bk ⟨v, mb, nb, s, q, (oc1, oc2), r, dg, (some ⟨l1, 0, none⟩, KL.length, KL.length)⟩) [2, 3, 4, 5, 15] (.blk rfl (pre_at hp rfl) (denL_mono hp _ _ rfl) rfl (.res rfl (.res rfl (.res rfl (.res rfl .nil))))) (by decide) 72
  have h4 := h3.gather (ids0 := [bk, 0, 0, 0, 0]) (mem0 := bkMem ⟨dgo, dgc, D, some ⟨g, 0, none⟩, c, K ++ [⟨(some ⟨l0, 0, none⟩, KL.length), (w0, wc0), KL⟩]⟩) [7, 8, 9, 10, 11] (.blk rfl (pre_at (hp.trans (List.prefix_append _ _)) rfl) rfl (by simp [denL, den]) (.res rfl (.res rfl (.res rfl (.res rfl .nil))))) (by decide) 69
  have h5 := h4.absorb 18 19 (by decide) rfl rfl rfl rfl rfl rfl
  exact post_res h5 rfl 18 rfl rfl rfl
end Go.Proofs.Ytcpecnpnnodfhaa
