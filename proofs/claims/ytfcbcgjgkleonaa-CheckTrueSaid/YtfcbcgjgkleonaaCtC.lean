/- Chapter 17's law: placeOf, CheckTrue. -/
import Derived.Test.YtfcbcgjgkleonaaCtA
import Derived.Test.YtfcbcgjgkleonaaBnA
import Derived.Test.YtfcbcgjgkleonaaCut
import Derived.Test.YtfcbcgjgkleonaaCkW
set_option maxRecDepth 100000
set_option linter.unusedSimpArgs false
set_option linter.unusedVariables false
set_option maxHeartbeats 8000000
namespace Go.Proofs.Ytfcbcgjgkleonaa
open Go.RowKit

theorem lPlace_ok {o : Option Addr} {L : List Pa} {w : World} (cap : Nat) (hR : (paRes o L).R w) (hl : L.length ≤ 9223372036854775806) (s d : Int) :
    Calls Try.prog 17 #[.slice o L.length cap, .agg #[.int .i64 s, .int .i64 d]] w fun e w' => e = .returned (.int .i64 (placeN L (s, d) : Nat)) ∧ Frm [] w w' := by
  have hI : Inv (cx 20 [] [] w) w [0] [⟨55, [.res (paRes o L)], false⟩] := (Inv.nil w).consR (by simp) hR (rd_lt hR) (by simp)
  refine calls_sm (cx 20 [] [] w) (vals := [.raw (.slice o L.length cap), .agg [.int .i64 s, .int .i64 d]]) mixed Try.func17 rfl rfl rfl hI rfl (st rfl ?_); conv => arg 3; whnf
  refine gg ?_
  refine n_loop1 rfl fun b1 => ?_
  refine n_loop (σ := Nat) (fun i => [(0, .raw (.slice o L.length cap)), (3, .ptr 1 0), (5, .int .i64 (i : Nat))]) (fun _ => [⟨55, [.res (paRes o L)], false⟩, ⟨48, [.int .i64 s, .int .i64 d], true⟩]) (fun i => i ≤ L.length ∧ ∀ j (hj : j < L.length), j < i → L[j].call ≠ (s, d)) (fun i => L.length - i) 0 mixed ⟨by omega, by intro j _ h; omega⟩ (fun _ _ => rfl) rfl (by (repeat (first | exact trivial | refine ⟨⟨rfl, rfl⟩, ?_⟩))) (fun s _ => ⟨by (repeat (first | exact trivial | refine ⟨⟨_, rfl⟩, ?_⟩)), by (repeat (first | exact trivial | refine ⟨⟨_, rfl⟩, ?_⟩))⟩) fun i hi => ?_
  obtain ⟨hi, hJ⟩ := hi
  (refine gs ?_)
  by_cases hlt2 : i < L.length
  · have ei : IntKind.i64.wrap ((i : Int) + 1) = ((i + 1 : Nat) : Int) := by rw [w64 (by omega) (by omega)]; simp
    obtain ⟨ad, rfl⟩ := rd_some pa_len (by omega) hR (by omega)
    have hx : L[i]? = some L[i] := List.getElem?_eq_getElem _
    generalize hpe : L[i] = p at hx
    refine gw ?_
    refine n_ldDI (.agg [.int .i64 p.se, .int .i64 p.id]) rfl rfl (fun _ w1 _ hI1 => pa_call (hI1.res 0 rfl rfl) hx (by simp [add_add])) ?_
    (refine gs ?_)
    refine gw ?_
    by_cases hc : p.call = (s, d)
    · refine n_brT (by rw [call_eqB]; simpa using hc) ?_
      (refine gs ?_)
      refine gw ?_
      refine n_leave ?_
      have e : placeN L (s, d) = i := by
        have : L.findIdx? (fun p => decide (p.call = (s, d))) = some i := by
          rw [List.findIdx?_eq_some_iff_getElem]
          exact ⟨hlt2, by rw [hpe]; simpa using hc, fun j hj => by simpa using hJ j (by omega) hj⟩
        rw [placeN, this]; rfl
      rw [e]
      exact n_ret0 rfl rfl fun ids' w' hp hI' => ⟨rfl, hI'.frm⟩
    · refine n_brF (by rw [call_eqB]; simpa using hc) ?_
      (refine gs ?_)
      refine gw ?_
      refine n_again ⟨i + 1, ⟨by omega, fun j hj hji => ?_⟩, by omega, (by (repeat (first | exact trivial | refine ⟨⟨rfl, rfl⟩, ?_⟩ | refine ⟨⟨rfl, congrArg (SV.int .i64) ei⟩, ?_⟩))), ⟨_, rfl⟩⟩
      by_cases e : j = i
      · subst e; rw [hpe]; exact hc
      · exact hJ j hj (by omega)
  · obtain rfl : i = L.length := by omega
    refine gw ?_
    refine n_exit rfl ?_
    (refine gs ?_)
    refine gw ?_
    have e : placeN L (s, d) = 0 := by
      have : L.findIdx? (fun p => decide (p.call = (s, d))) = none := by
        rw [List.findIdx?_eq_none_iff]
        intro x hx
        obtain ⟨j, hj, rfl⟩ := List.getElem_of_mem hx
        simpa using hJ j hj hj
      rw [placeN, this]; rfl
    rw [e]
    exact n_ret0 rfl rfl fun ids' w' hp hI' => ⟨rfl, hI'.frm⟩

theorem sizeI17' : sizeB Try.prog 3 = some 1 := by kernel_rfl
theorem flat_cut {α : Type} {f : α → List Value} {size : Nat} (hf : ∀ x, (f x).length = size) : ∀ (k : Nat) {L : List α}, (L.flatMap f).take (k * size) ++ (L.flatMap f).drop ((k + 1) * size) = (L.take k ++ L.drop (k + 1)).flatMap f
  | 0, [] => by simp
  | 0, x :: L => by
    simp only [List.flatMap_cons, Nat.zero_mul, List.take_zero, List.nil_append, Nat.zero_add, Nat.one_mul, List.drop_one, List.tail_cons]
    rw [List.drop_append_of_le_length (by rw [hf]; omega), List.drop_of_length_le (by rw [hf]; omega)]
    simp
  | k + 1, [] => by simp
  | k + 1, x :: L => by
    have ih := flat_cut hf k (L := L)
    simp only [List.flatMap_cons, List.take_succ_cons, List.drop_succ_cons, List.cons_append]
    rw [← ih, List.take_append, List.drop_append, hf, show (k + 1) * size - size = k * size by rw [Nat.add_mul]; omega, show (k + 1 + 1) * size - size = (k + 1) * size by rw [Nat.add_mul (k + 1)]; omega,
      List.take_of_length_le (by rw [hf, Nat.add_mul]; omega), List.drop_of_length_le (by rw [hf, Nat.add_mul (k + 1), Nat.add_mul k]; omega)]
    simp
theorem toNat_eq {x : Int} {n : Nat} (h : x = (n : Int)) : x.toNat = n := by omega
theorem CheckTrue_ok {o : Option Addr} {l : List Mv} {w : World} (cap : Nat) (turn at_ : Int) (hR : (mvRes o l).R w) (hl : l.length ≤ 9223372036854775806) (hg : ∀ m ∈ l, m.good) (ht : i64 turn) (ha : i64 at_) :
    Calls Try.prog 6 #[.slice o l.length cap, .int .i64 turn, .int .i64 at_] w fun x w' => x = .returned (.bool true) ∧ Frm [] w w' := by
  obtain ⟨it, hit, hpe⟩ := Option.map_eq_some_iff.1 infoEff
  simp only [Prod.mk.injEq] at hpe
  have hI := Inv.nil (P := Try.prog) (N := 205) (S := []) (os := [(16, .then [(0, []), (1, []), (3, []), (4, []), (5, [])] (.fork 2 [] (.of [(6, []), (7, []), (8, [])]) (.cons 6 [] (.of [(2, []), (7, []), (8, [])]))))]) w
  have hM1 : ∀ w1, Frm [] w w1 → (mvRes o l).R w1 := fun w1 hf => (mvRes o l).stable _ _ (fun k hk => hf.block k (rd_lt hR k hk) (by simp)) hR
  refine calls_sm (cx 205 [(16, .then [(0, []), (1, []), (3, []), (4, []), (5, [])] (.fork 2 [] (.of [(6, []), (7, []), (8, [])]) (.cons 6 [] (.of [(2, []), (7, []), (8, [])]))))] [] w) (vals := [.raw (.slice o l.length cap), .int .i64 turn, .int .i64 at_]) mixed Try.func6 rfl rfl rfl hI rfl (st rfl ?_); conv => arg 3; whnf
  refine gw ?_
  refine n_sameP (.bool true) rfl rfl rfl (fun _ w1 hp1 hI1 => able_ok w1) ?_; (refine gs ?_)
  refine gw ?_
  have q := sq_all l (min l.length 40)
  have gd := sg_all hg (min l.length 40) (by omega)
  have hin := storyT_in l (min l.length 40)
  refine n_callN (fun y : (Option Addr × Nat) × (Option Addr × Nat) => (paRow y.1 (storyT l (min l.length 40)).h).both (efRow y.2 (storyT l (min l.length 40)).fx)) 55 (fun y => .tup [.raw (.slice y.1.1 (storyT l (min l.length 40)).h.length y.1.2), .raw (.slice y.2.1 (storyT l (min l.length 40)).fx.length y.2.2)]) (fun y => .tuple #[.slice y.1.1 (storyT l (min l.length 40)).h.length y.1.2, .slice y.2.1 (storyT l (min l.length 40)).fx.length y.2.2]) (fun y => (0 < (storyT l (min l.length 40)).h.length → ∃ g, y.1.1 = some ⟨g, 0, none⟩) ∧ (0 < (storyT l (min l.length 40)).fx.length → ∃ g, y.2.1 = some ⟨g, 0, none⟩)) rfl rfl rfl (fun _ => rfl) (fun w1 hI1 => (story_ok (most := 40) cap (hM1 _ hI1.frm) (rd_lt (hM1 _ hI1.frm)) hl hg (by omega)).mono fun e w' ⟨y, he, _, hF⟩ => ⟨y, he, ⟨fun h => rowRes_some' hF.2.1.1 h, fun h => rowRes_some' hF.2.1.2.1 h⟩, hF⟩) ?_
  rintro ⟨⟨ho, hc⟩, ⟨eo, ec⟩⟩ ⟨hoN, eoN⟩ hnew
  dsimp only at hoN eoN hnew
  generalize storyT l (min l.length 40) = T at *
  obtain ⟨b1, b2, _⟩ := hin
  have hver := q.verified
  (refine gs ?_)
  refine gw ?_
  refine n_sameP (ansS 0 0) rfl rfl rfl (fun _ w1 hp1 hI1 => (by have h := cVerify_ok (o := ho) (L := T.h) (oe := eo) (E := T.fx) (w := w1) hc ec (rd_of_row (hI1.res 0 rfl rfl).1) (rd_lt (rd_of_row (hI1.res 0 rfl rfl).1)) (rd_of_row (hI1.res 0 rfl rfl).2.1) (rd_lt (rd_of_row (hI1.res 0 rfl rfl).2.1)) (fun x hx hm => (hI1.res 0 rfl rfl).2.2 x (rd_inR hx) (rd_inR hm)) (by omega) (by omega) (fun p hp => ⟨(gd.1 p hp).se, (gd.1 p hp).id⟩) gd.2; rw [verF_eq, hver] at h; exact h)) ?_; (refine gs ?_)
  refine gw ?_
  by_cases h0 : T.fx.length = 0
  · (repeat ((first | refine n_must rfl ?_ | refine n_chk (drawF_ok (by decide +kernel)) ?_ | refine n_same rfl ?_ | ((first | refine n_must ?_ ?_ | refine n_brT ?_ ?_); (focus (first | (simp [h0]; done) | (simp [h0]; omega) | (simp only [h0]; simp; done)))) | (refine n_brF ?_ ?_; (focus (first | (simp [h0]; done) | (simp [h0]; omega) | (simp only [h0]; simp; done)))) | refine n_must (by (with_reducible refine and_shape ?_) <;> kernel_rfl) ?_); (refine gs ?_)))
    exact n_ret0 rfl rfl fun ids' w' hp hI' => ⟨rfl, hI'.frm⟩
  (repeat ((first | refine n_must rfl ?_ | refine n_chk (drawF_ok (by decide +kernel)) ?_ | refine n_same rfl ?_ | ((first | refine n_must ?_ ?_ | refine n_brT ?_ ?_); (focus (first | (simp [h0]; done) | (simp [h0]; omega) | (simp only [h0]; simp; done)))) | (refine n_brF ?_ ?_; (focus (first | (simp [h0]; done) | (simp [h0]; omega) | (simp only [h0]; simp; done)))) | refine n_must (by (with_reducible refine and_shape ?_) <;> kernel_rfl) ?_); (refine gs ?_)))
  have hbk := within_in (x := at_) (show (0 : Int) < (T.fx.length : Nat) by omega)
  refine n_sameP (.int .i64 (withinI at_ (T.fx.length : Nat))) rfl rfl rfl (fun _ w1 hp1 hI1 => lwithin_ok at_ (T.fx.length : Nat) ha (by omega) (by omega) w1) ?_; (refine gs ?_)
  obtain ⟨k, hk⟩ : ∃ k : Nat, withinI at_ (T.fx.length : Nat) = (k : Int) := ⟨_, (Int.toNat_of_nonneg hbk.1).symm⟩
  rw [hk] at hbk ⊢
  have hkl : k < T.fx.length := by omega
  have hx : T.fx[k]? = some T.fx[k] := List.getElem?_eq_getElem hkl
  obtain ⟨p, hp, _, hpc, hpx⟩ := q.at_ (List.getElem_mem hkl)
  generalize T.fx[k] = e at hx hp hpc hpx
  have hpl := (List.getElem?_eq_some_iff.1 hp).1
  have hpb := q.hb p (List.mem_of_getElem? hp)
  have heg := gd.2 e (List.mem_of_getElem? hx)
  obtain ⟨gh, rfl⟩ := hoN (by omega)
  obtain ⟨ge, rfl⟩ := eoN (by omega)
  generalize hpi : placeN T.h e.call = pi at hp hpl
  refine gw ?_
  refine n_ldI (.agg [.int .i64 e.se, .int .i64 e.id]) rfl rfl (fun _ w1 _ hI1 => ef_call (rd_of_row (hI1.res 0 rfl rfl).2.1) hx (addT ⟨ge, 0, none⟩ k 9 1)) ?_
  (refine gs ?_)
  refine gw ?_
  refine n_sameP (.int .i64 (pi : Nat)) rfl rfl rfl (fun _ w1 hp1 hI1 => (by have h := lPlace_ok (o := some ⟨gh, 0, none⟩) (L := T.h) (w := w1) hc (rd_of_row (hI1.res 0 rfl rfl).1) (by omega) e.se e.id; rw [show placeN T.h (e.se, e.id) = pi from hpi] at h; exact h)) ?_; (refine gs ?_)
  refine gw ?_
  refine n_appendN (nv := T.fx.flatMap Ef.l) rfl rfl rfl elemEff hit hpe.1 hpe.2.1 hpe.2.2 rfl (by omega) rfl rfl (by rw [flat_len ef_len]) (fun _ w1 _ hI1 => rd_of_row (hI1.res 0 rfl rfl).2.1) (one_ef T.fx) (by omega) (by omega) ?_
  rintro ⟨wo, wc⟩ hwc
  dsimp only at hwc
  (refine gs ?_)
  refine gw ?_
  refine n_callF (P := ∃ g, wo = some ⟨g, 0, none⟩) (fun _ w1 _ hI1 => rowRes_some' (hI1.res 1 rfl rfl) (by omega)) fun hwo => ?_
  obtain ⟨gv, rfl⟩ := hwo
  have hbt := within_in (x := turn) (show (0 : Int) < 5 by omega)
  refine n_sameP (.int .i64 (withinI turn 5)) rfl rfl rfl (fun _ w1 hp1 hI1 => lwithin_ok turn 5 ht (by omega) (by omega) w1) ?_; (refine gs ?_)
  generalize withinI turn 5 = t at hbt
  have ek : IntKind.i64.wrap ((k : Int) + 1) = ((k + 1 : Nat) : Int) := by rw [w64 (by omega) (by omega)]; simp
  have cp : ∀ {w1 : World} (j : Nat) {u : Value}, p.l[j]? = some u → ((paRow (some ⟨gh, 0, none⟩, hc) T.h).both (efRow (some ⟨ge, 0, none⟩, ec) T.fx)).R w1 → ∀ {ad : Addr}, ad = (⟨gh, 0, none⟩ : Addr).add (pi * 10 + j) → w1.cell? ad = some u := fun j _ hu h _ had => pa_cell (rd_of_row h.1) hp j hu had
  have hwl : T.fx.length + T.h.length ≤ 1048576 := by omega
  /- the last Verify -/
  have set_good : ∀ e', e'.good → ∀ x ∈ T.fx.set k e', x.good := fun e' h x hx => (List.mem_or_eq_of_mem_set hx).elim (gd.2 x) (fun e => e ▸ h)
  by_cases t0 : t = 0
  · (repeat ((first | refine n_must rfl ?_ | refine n_chk (drawF_ok (by decide +kernel)) ?_ | refine n_same rfl ?_ | ((first | refine n_must ?_ ?_ | refine n_brT ?_ ?_); (focus (first | (simp [t0]; done) | (simp [t0]; omega) | (simp only [t0]; simp; done)))) | (refine n_brF ?_ ?_; (focus (first | (simp [t0]; done) | (simp [t0]; omega) | (simp only [t0]; simp; done)))) | refine n_must (by (with_reducible refine and_shape ?_) <;> kernel_rfl) ?_); (refine gs ?_)))
    refine n_ldI (.agg p.sv) rfl rfl (fun _ w1 _ hI1 => pa_row (rd_of_row (hI1.res 0 rfl rfl).1) hp rfl) ?_
    (refine gs ?_)
    refine gw ?_
    refine n_sameP (.int .i64 (sortF p)) rfl rfl rfl (fun _ w1 hp1 hI1 => rSort_ok p w1) ?_; (refine gs ?_)
    by_cases h2 : sortF p = 2
    · (repeat ((first | refine n_must rfl ?_ | refine n_chk (drawF_ok (by decide +kernel)) ?_ | refine n_same rfl ?_ | ((first | refine n_must ?_ ?_ | refine n_brT ?_ ?_); (focus (first | (simp [h2]; done) | (simp [h2]; omega) | (simp only [h2]; simp; done)))) | (refine n_brF ?_ ?_; (focus (first | (simp [h2]; done) | (simp [h2]; omega) | (simp only [h2]; simp; done)))) | refine n_must (by (with_reducible refine and_shape ?_) <;> kernel_rfl) ?_); (refine gs ?_)))
      have hv := q.less hx (hpi ▸ hp) h2 (alR (T.fx.take k ++ T.fx.drop (k + 1)))
      have hlen : (T.fx.take k ++ T.fx.drop (k + 1)).length = k + (T.fx.length - (k + 1)) := by rw [List.length_append, List.length_take, List.length_drop]; omega
      have hgd : ∀ e ∈ T.fx.take k ++ T.fx.drop (k + 1), e.good := fun e he => (List.mem_append.1 he).elim (fun he => gd.2 e (List.mem_of_mem_take he)) (fun he => gd.2 e (List.mem_of_mem_drop he))
      have hcut : (T.fx.flatMap Ef.l).take (k * 9) ++ (T.fx.flatMap Ef.l).drop ((k + 1) * 9) = (T.fx.take k ++ T.fx.drop (k + 1)).flatMap Ef.l := flat_cut ef_len k
      refine n_both ?_ ?_ <;> (refine gs ?_)
      · refine gw ?_
        refine n_sliceHi (n := k) rfl rfl elemEff sizeEff rfl rfl (by omega) ?_
        (refine gs ?_)
        refine gw ?_
        refine n_sliceLo (n := k + 1) rfl rfl elemEff sizeEff rfl (congrArg (fun x => some (SV.int .i64 x)) ek) (by omega) ?_
        (refine gs ?_)
        refine gw ?_
        refine n_appendCut 1 rfl rfl elemEff hit hpe.2.1 hkl rfl rfl rfl (one_ef T.fx) hcut ?_
        (refine gs ?_)
        refine gw ?_
        obtain ⟨n, hn, hnl⟩ := hv
        refine n_sameP (ansS n 170) rfl rfl rfl (fun _ w1 hp1 hI1 => (by have h := cVerify_ok (o := some ⟨gh, 0, none⟩) (L := T.h) (oe := some ⟨gv, 0, none⟩) (E := T.fx.take k ++ T.fx.drop (k + 1)) (w := w1) hc wc (rd_of_row (hI1.res 0 rfl rfl).1) (rd_lt (rd_of_row (hI1.res 0 rfl rfl).1)) (rd_of_row (hI1.res 1 rfl rfl)) (rd_lt (rd_of_row (hI1.res 1 rfl rfl))) (fun x hx hm => hI1.res_res 0 1 (by decide) rfl rfl rfl rfl x (List.mem_append.2 (.inl (rd_inR hx))) (rd_inR hm)) (by omega) (by omega) (fun p hp => ⟨(gd.1 p hp).se, (gd.1 p hp).id⟩) hgd; rw [verF_eq, hn, hlen] at h; exact h)) ?_; (refine gs ?_)
        have en : IntKind.i64.wrap (((k + (T.fx.length - (k + 1)) : Nat) : Int) + (T.h.length : Nat)) = ((k + (T.fx.length - (k + 1)) : Nat) : Int) + (T.h.length : Nat) := w64 (by omega) (by omega)
        have hn1 : (n : Int) < ((k + (T.fx.length - (k + 1)) : Nat) : Int) + (T.h.length : Nat) := by omega
        (repeat ((first | refine n_must rfl ?_ | refine n_chk (drawF_ok (by decide +kernel)) ?_ | refine n_same rfl ?_ | ((first | refine n_must ?_ ?_ | refine n_brT ?_ ?_); (focus (first | (simp [en, hn1]; done) | (simp [en, hn1]; omega) | (simp only [en, hn1]; simp; done)))) | (refine n_brF ?_ ?_; (focus (first | (simp [en, hn1]; done) | (simp [en, hn1]; omega) | (simp only [en, hn1]; simp; done)))) | refine n_must (by (with_reducible refine and_shape ?_) <;> kernel_rfl) ?_); (refine gs ?_)))
        refine n_ret0 rfl rfl fun ids' w' hp hI' => ⟨ret_bool (by rw [en, decide_eq_true hn1]), hI'.frm⟩
      · refine gw ?_
        refine n_sliceLo (n := k + 1) rfl rfl elemEff sizeEff rfl (congrArg (fun x => some (SV.int .i64 x)) ek) (by omega) ?_
        (refine gs ?_)
        refine gw ?_
        refine n_sliceHi (n := k) rfl rfl elemEff sizeEff rfl rfl (by omega) ?_
        (refine gs ?_)
        refine gw ?_
        refine n_appendCut 1 rfl rfl elemEff hit hpe.2.1 hkl rfl rfl rfl (one_ef T.fx) hcut ?_
        (refine gs ?_)
        refine gw ?_
        obtain ⟨n, hn, hnl⟩ := hv
        refine n_sameP (ansS n 170) rfl rfl rfl (fun _ w1 hp1 hI1 => (by have h := cVerify_ok (o := some ⟨gh, 0, none⟩) (L := T.h) (oe := some ⟨gv, 0, none⟩) (E := T.fx.take k ++ T.fx.drop (k + 1)) (w := w1) hc wc (rd_of_row (hI1.res 0 rfl rfl).1) (rd_lt (rd_of_row (hI1.res 0 rfl rfl).1)) (rd_of_row (hI1.res 1 rfl rfl)) (rd_lt (rd_of_row (hI1.res 1 rfl rfl))) (fun x hx hm => hI1.res_res 0 1 (by decide) rfl rfl rfl rfl x (List.mem_append.2 (.inl (rd_inR hx))) (rd_inR hm)) (by omega) (by omega) (fun p hp => ⟨(gd.1 p hp).se, (gd.1 p hp).id⟩) hgd; rw [verF_eq, hn, hlen] at h; exact h)) ?_; (refine gs ?_)
        have en : IntKind.i64.wrap (((k + (T.fx.length - (k + 1)) : Nat) : Int) + (T.h.length : Nat)) = ((k + (T.fx.length - (k + 1)) : Nat) : Int) + (T.h.length : Nat) := w64 (by omega) (by omega)
        have hn1 : (n : Int) < ((k + (T.fx.length - (k + 1)) : Nat) : Int) + (T.h.length : Nat) := by omega
        (repeat ((first | refine n_must rfl ?_ | refine n_chk (drawF_ok (by decide +kernel)) ?_ | refine n_same rfl ?_ | ((first | refine n_must ?_ ?_ | refine n_brT ?_ ?_); (focus (first | (simp [en, hn1]; done) | (simp [en, hn1]; omega) | (simp only [en, hn1]; simp; done)))) | (refine n_brF ?_ ?_; (focus (first | (simp [en, hn1]; done) | (simp [en, hn1]; omega) | (simp only [en, hn1]; simp; done)))) | refine n_must (by (with_reducible refine and_shape ?_) <;> kernel_rfl) ?_); (refine gs ?_)))
        refine n_ret0 rfl rfl fun ids' w' hp hI' => ⟨ret_bool (by rw [en, decide_eq_true hn1]), hI'.frm⟩
    · (repeat ((first | refine n_must rfl ?_ | refine n_chk (drawF_ok (by decide +kernel)) ?_ | refine n_same rfl ?_ | ((first | refine n_must ?_ ?_ | refine n_brT ?_ ?_); (focus (first | (simp [h2]; done) | (simp [h2]; omega) | (simp only [h2]; simp; done)))) | (refine n_brF ?_ ?_; (focus (first | (simp [h2]; done) | (simp [h2]; omega) | (simp only [h2]; simp; done)))) | refine n_must (by (with_reducible refine and_shape ?_) <;> kernel_rfl) ?_); (refine gs ?_)))
      exact n_ret0 rfl rfl fun ids' w' hp hI' => ⟨rfl, hI'.frm⟩
  by_cases t1 : t = 1
  · (repeat ((first | refine n_must rfl ?_ | refine n_chk (drawF_ok (by decide +kernel)) ?_ | refine n_same rfl ?_ | ((first | refine n_must ?_ ?_ | refine n_brT ?_ ?_); (focus (first | (simp [t0, t1]; done) | (simp [t0, t1]; omega) | (simp only [t0, t1]; simp; done)))) | (refine n_brF ?_ ?_; (focus (first | (simp [t0, t1]; done) | (simp [t0, t1]; omega) | (simp only [t0, t1]; simp; done)))) | refine n_must (by (with_reducible refine and_shape ?_) <;> kernel_rfl) ?_); (refine gs ?_)))
    refine n_ldI (.agg e.sv) rfl rfl (fun _ w1 _ hI1 => ef_row (rd_of_row (hI1.res 1 rfl rfl)) hx rfl) ?_
    (refine gs ?_)
    refine gw ?_
    refine n_build1 rfl rfl elemEff rfl rfl rfl rfl rfl rfl rfl rfl rfl ?_
    (refine gs ?_)
    refine gw ?_
    refine n_append (nv := e.l) 1 rfl rfl elemEff hit hpe.1 hpe.2.1 hpe.2.2 rfl (by omega) rfl rfl rfl rfl rfl rfl (by omega) (by simp [Value.oneCell']) (by omega) (by omega) (show T.fx.flatMap Ef.l ++ e.l = (T.fx ++ [e]).flatMap Ef.l by simp) fun gw2 cw2 => ?_
    (refine gs ?_)
    have ea : IntKind.i64.wrap (((T.fx.length + 1 : Nat) : Int) - 1) = (T.fx.length : Nat) := by rw [w64 (by omega) (by omega)]; omega
    have eb : IntKind.i64.wrap (((T.fx.length + 1 : Nat) : Int) - 2) = ((T.fx.length - 1 : Nat) : Int) := by rw [w64 (by omega) (by omega)]; omega
    have hd : (T.fx ++ [e])[T.fx.length - 1]? = some T.fx[T.fx.length - 1] := by rw [List.getElem?_append_left (by omega)]; exact List.getElem?_eq_getElem _
    have he2 : (T.fx ++ [e])[T.fx.length]? = some e := by simp
    generalize T.fx[T.fx.length - 1] = d at hd
    have hb1 : 0 ≤ ((T.fx.length - 1 : Nat) : Int) ∧ ((T.fx.length - 1 : Nat) : Int) < ((T.fx.length + 1 : Nat) : Int) := by omega
    (repeat ((first | refine n_must rfl ?_ | refine n_chk (drawF_ok (by decide +kernel)) ?_ | refine n_same rfl ?_ | ((first | refine n_must ?_ ?_ | refine n_brT ?_ ?_); (focus (first | (simp [ea, eb]; done) | (simp [ea, eb]; omega) | (simp only [ea, eb]; simp; done)))) | (refine n_brF ?_ ?_; (focus (first | (simp [ea, eb]; done) | (simp [ea, eb]; omega) | (simp only [ea, eb]; simp; done)))) | refine n_must (by (with_reducible refine and_shape ?_) <;> kernel_rfl) ?_); (refine gs ?_)))
    refine n_must (decide_eq_true (by rw [eb]; exact hb1)) ?_
    (refine gs ?_)
    refine gw ?_
    (first | (refine n_ldI (.int .i64 d.sp) rfl rfl (fun _ w1 _ hI1 => load_cell aggInt (ef_cell (rd_of_row (hI1.res 1 rfl rfl)) hd 0 rfl (by rw [eb]; exact addT ⟨gw2, 0, none⟩ (T.fx.length - 1) 9 0))) ?_; (refine gs ?_)) | (refine n_ldDI (.int .i64 d.sp) rfl rfl (fun _ w1 _ hI1 => load_cell aggInt (ef_cell (rd_of_row (hI1.res 1 rfl rfl)) hd 0 rfl (by rw [eb]; exact addT ⟨gw2, 0, none⟩ (T.fx.length - 1) 9 0))) ?_; (refine gs ?_)) | (refine n_ldRI (.int .i64 d.sp) rfl (fun _ w1 _ hI1 => load_cell aggInt (ef_cell (rd_of_row (hI1.res 1 rfl rfl)) hd 0 rfl (by rw [eb]; exact addT ⟨gw2, 0, none⟩ (T.fx.length - 1) 9 0))) ?_; (refine gs ?_)))
    refine gw ?_
    refine n_must (decide_eq_true (by rw [ea]; omega)) ?_
    (refine gs ?_)
    refine gw ?_
    refine n_storeRow (g := gw2) (off := T.fx.length * 9) (k := 1) (rv := .int .i64 d.sp) (v := .int .i64 d.sp) 1 ((T.fx ++ [{ e with sp := d.sp }]).flatMap Ef.l) rfl rfl rfl (by rw [ea]; exact (addT ⟨gw2, 0, none⟩ T.fx.length 9 0).trans (add_mk _ _)) rfl rfl sizeI17' rfl rfl rfl (by rw [flat_len ef_len]; simp; omega) ?_ ?_
    · have h := flat_set1 ef_len (L := T.fx ++ [e]) he2 (j := 0) (by omega) (x' := { e with sp := d.sp }) rfl
      refine Eq.trans h ?_
      rw [List.set_append_right _ _ (by omega)]
      simp
    (refine gs ?_)
    refine gw ?_
    have hgd : ∀ x ∈ T.fx ++ [{ e with sp := d.sp }], x.good := fun x hx => (List.mem_append.1 hx).elim (gd.2 x) (fun h => by simp at h; subst h; exact ⟨heg.se, heg.id, heg.nm, heg.a, heg.va⟩)
    have hlen : (T.fx ++ [{ e with sp := d.sp }]).length = T.fx.length + 1 := by simp
    obtain ⟨n, hn, hnl⟩ := q.twice (e' := { e with sp := d.sp }) hx rfl (alR (T.fx ++ [{ e with sp := d.sp }]))
    refine n_sameP (ansS n 170) rfl rfl rfl (fun _ w1 hp1 hI1 => (by have h := cVerify_ok (o := some ⟨gh, 0, none⟩) (L := T.h) (oe := some ⟨gw2, 0, none⟩) (E := T.fx ++ [{ e with sp := d.sp }]) (w := w1) hc cw2 (rd_of_row (hI1.res 0 rfl rfl).1) (rd_lt (rd_of_row (hI1.res 0 rfl rfl).1)) (rd_of_row (hI1.res 1 rfl rfl)) (rd_lt (rd_of_row (hI1.res 1 rfl rfl))) (fun x hx hm => hI1.res_res 0 1 (by decide) rfl rfl rfl rfl x (List.mem_append.2 (.inl (rd_inR hx))) (rd_inR hm)) (by omega) (by omega) (fun p hp => ⟨(gd.1 p hp).se, (gd.1 p hp).id⟩) hgd; rw [verF_eq, hn, hlen] at h; exact h)) ?_; (refine gs ?_)
    have en : IntKind.i64.wrap (((T.fx.length + 1 : Nat) : Int) + (T.h.length : Nat)) = ((T.fx.length + 1 : Nat) : Int) + (T.h.length : Nat) := w64 (by omega) (by omega)
    have hn1 : (n : Int) < ((T.fx.length + 1 : Nat) : Int) + (T.h.length : Nat) := by omega
    (repeat ((first | refine n_must rfl ?_ | refine n_chk (drawF_ok (by decide +kernel)) ?_ | refine n_same rfl ?_ | ((first | refine n_must ?_ ?_ | refine n_brT ?_ ?_); (focus (first | (simp [en, hn1]; done) | (simp [en, hn1]; omega) | (simp only [en, hn1]; simp; done)))) | (refine n_brF ?_ ?_; (focus (first | (simp [en, hn1]; done) | (simp [en, hn1]; omega) | (simp only [en, hn1]; simp; done)))) | refine n_must (by (with_reducible refine and_shape ?_) <;> kernel_rfl) ?_); (refine gs ?_)))
    refine n_ret0 rfl rfl fun ids' w' hp hI' => ⟨ret_bool (by rw [en, decide_eq_true hn1]), hI'.frm⟩
  have hlen : ∀ e', (T.fx.set k e').length = T.fx.length := fun e' => by simp
  by_cases t2 : t = 2
  · (repeat ((first | refine n_must rfl ?_ | refine n_chk (drawF_ok (by decide +kernel)) ?_ | refine n_same rfl ?_ | ((first | refine n_must ?_ ?_ | refine n_brT ?_ ?_); (focus (first | (simp [t0, t1, t2]; done) | (simp [t0, t1, t2]; omega) | (simp only [t0, t1, t2]; simp; done)))) | (refine n_brF ?_ ?_; (focus (first | (simp [t0, t1, t2]; done) | (simp [t0, t1, t2]; omega) | (simp only [t0, t1, t2]; simp; done)))) | refine n_must (by (with_reducible refine and_shape ?_) <;> kernel_rfl) ?_); (refine gs ?_)))
    (first | (refine n_ldI (.int .i64 p.k) rfl rfl (fun _ w1 _ hI1 => load_cell aggInt (cp 2 rfl (hI1.res 0 rfl rfl) (by simp [add_add]))) ?_; (refine gs ?_)) | (refine n_ldDI (.int .i64 p.k) rfl rfl (fun _ w1 _ hI1 => load_cell aggInt (cp 2 rfl (hI1.res 0 rfl rfl) (by simp [add_add]))) ?_; (refine gs ?_)) | (refine n_ldRI (.int .i64 p.k) rfl (fun _ w1 _ hI1 => load_cell aggInt (cp 2 rfl (hI1.res 0 rfl rfl) (by simp [add_add]))) ?_; (refine gs ?_)))
    by_cases k4 : p.k = 4
    · (repeat ((first | refine n_must rfl ?_ | refine n_chk (drawF_ok (by decide +kernel)) ?_ | refine n_same rfl ?_ | ((first | refine n_must ?_ ?_ | refine n_brT ?_ ?_); (focus (first | (simp [k4]; done) | (simp [k4]; omega) | (simp only [k4]; simp; done)))) | (refine n_brF ?_ ?_; (focus (first | (simp [k4]; done) | (simp [k4]; omega) | (simp only [k4]; simp; done)))) | refine n_must (by (with_reducible refine and_shape ?_) <;> kernel_rfl) ?_); (refine gs ?_)))
      (first | (refine n_ldI (.int .i64 p.to) rfl rfl (fun _ w1 _ hI1 => load_cell aggInt (cp 7 rfl (hI1.res 0 rfl rfl) (by simp [add_add]))) ?_; (refine gs ?_)) | (refine n_ldDI (.int .i64 p.to) rfl rfl (fun _ w1 _ hI1 => load_cell aggInt (cp 7 rfl (hI1.res 0 rfl rfl) (by simp [add_add]))) ?_; (refine gs ?_)) | (refine n_ldRI (.int .i64 p.to) rfl (fun _ w1 _ hI1 => load_cell aggInt (cp 7 rfl (hI1.res 0 rfl rfl) (by simp [add_add]))) ?_; (refine gs ?_)))
      by_cases hto : p.to < 0
      · (repeat ((first | refine n_must rfl ?_ | refine n_chk (drawF_ok (by decide +kernel)) ?_ | refine n_same rfl ?_ | ((first | refine n_must ?_ ?_ | refine n_brT ?_ ?_); (focus (first | (simp [hto]; done) | (simp [hto]; omega) | (simp only [hto]; simp; done)))) | (refine n_brF ?_ ?_; (focus (first | (simp [hto]; done) | (simp [hto]; omega) | (simp only [hto]; simp; done)))) | refine n_must (by (with_reducible refine and_shape ?_) <;> kernel_rfl) ?_); (refine gs ?_)))
        exact n_ret0 rfl rfl fun ids' w' hp hI' => ⟨rfl, hI'.frm⟩
      · (repeat ((first | refine n_must rfl ?_ | refine n_chk (drawF_ok (by decide +kernel)) ?_ | refine n_same rfl ?_ | ((first | refine n_must ?_ ?_ | refine n_brT ?_ ?_); (focus (first | (simp [hto]; done) | (simp [hto]; omega) | (simp only [hto]; simp; done)))) | (refine n_brF ?_ ?_; (focus (first | (simp [hto]; done) | (simp [hto]; omega) | (simp only [hto]; simp; done)))) | refine n_must (by (with_reducible refine and_shape ?_) <;> kernel_rfl) ?_); (refine gs ?_)))
        (first | (refine n_ldI (.int .i64 p.er) rfl rfl (fun _ w1 _ hI1 => load_cell aggErr (cp 8 rfl (hI1.res 0 rfl rfl) (by simp [add_add]))) ?_; (refine gs ?_)) | (refine n_ldDI (.int .i64 p.er) rfl rfl (fun _ w1 _ hI1 => load_cell aggErr (cp 8 rfl (hI1.res 0 rfl rfl) (by simp [add_add]))) ?_; (refine gs ?_)) | (refine n_ldRI (.int .i64 p.er) rfl (fun _ w1 _ hI1 => load_cell aggErr (cp 8 rfl (hI1.res 0 rfl rfl) (by simp [add_add]))) ?_; (refine gs ?_)))
        by_cases her : p.er = 111
        · (repeat ((first | refine n_must rfl ?_ | refine n_chk (drawF_ok (by decide +kernel)) ?_ | refine n_same rfl ?_ | ((first | refine n_must ?_ ?_ | refine n_brT ?_ ?_); (focus (first | (simp [her]; done) | (simp [her]; omega) | (simp only [her]; simp; done)))) | (refine n_brF ?_ ?_; (focus (first | (simp [her]; done) | (simp [her]; omega) | (simp only [her]; simp; done)))) | refine n_must (by (with_reducible refine and_shape ?_) <;> kernel_rfl) ?_); (refine gs ?_)))
          exact n_ret0 rfl rfl fun ids' w' hp hI' => ⟨rfl, hI'.frm⟩
        · (repeat ((first | refine n_must rfl ?_ | refine n_chk (drawF_ok (by decide +kernel)) ?_ | refine n_same rfl ?_ | ((first | refine n_must ?_ ?_ | refine n_brT ?_ ?_); (focus (first | (simp [her]; done) | (simp [her]; omega) | (simp only [her]; simp; done)))) | (refine n_brF ?_ ?_; (focus (first | (simp [her]; done) | (simp [her]; omega) | (simp only [her]; simp; done)))) | refine n_must (by (with_reducible refine and_shape ?_) <;> kernel_rfl) ?_); (refine gs ?_)))
          obtain ⟨hne, hwr⟩ := wrap_ne heg.va
          (first | (refine n_ldI (.int .i64 e.va) rfl rfl (fun _ w1 _ hI1 => load_cell aggInt (ef_cell (rd_of_row (hI1.res 1 rfl rfl)) hx 8 rfl (addT ⟨gv, 0, none⟩ k 9 8))) ?_; (refine gs ?_)) | (refine n_ldDI (.int .i64 e.va) rfl rfl (fun _ w1 _ hI1 => load_cell aggInt (ef_cell (rd_of_row (hI1.res 1 rfl rfl)) hx 8 rfl (addT ⟨gv, 0, none⟩ k 9 8))) ?_; (refine gs ?_)) | (refine n_ldRI (.int .i64 e.va) rfl (fun _ w1 _ hI1 => load_cell aggInt (ef_cell (rd_of_row (hI1.res 1 rfl rfl)) hx 8 rfl (addT ⟨gv, 0, none⟩ k 9 8))) ?_; (refine gs ?_)))
          refine gw ?_
          refine n_storeRow (g := gv) (off := k * 9 + 8) (k := 1) (rv := .int .i64 (IntKind.i64.wrap (e.va + 1))) (v := .int .i64 (IntKind.i64.wrap (e.va + 1))) 1 ((T.fx.set k { e with va := IntKind.i64.wrap (e.va + 1) }).flatMap Ef.l) rfl rfl rfl ((addT ⟨gv, 0, none⟩ k 9 8).trans (add_mk _ _)) rfl rfl sizeI17' rfl rfl rfl (by rw [flat_len ef_len]; omega) (flat_set1 ef_len hx (j := 8) (by omega) rfl) ?_
          (refine gs ?_)
          refine gw ?_
          have hgd := set_good { e with va := IntKind.i64.wrap (e.va + 1) } ⟨heg.se, heg.id, heg.nm, heg.a, hwr⟩
          have hlen := hlen { e with va := IntKind.i64.wrap (e.va + 1) }
          obtain ⟨n, hn, hnl⟩ := q.value hx (hpi ▸ hp) (by omega) hne
          refine n_sameP (ansS n 170) rfl rfl rfl (fun _ w1 hp1 hI1 => (by have h := cVerify_ok (o := some ⟨gh, 0, none⟩) (L := T.h) (oe := some ⟨gv, 0, none⟩) (E := T.fx.set k { e with va := IntKind.i64.wrap (e.va + 1) }) (w := w1) hc wc (rd_of_row (hI1.res 0 rfl rfl).1) (rd_lt (rd_of_row (hI1.res 0 rfl rfl).1)) (rd_of_row (hI1.res 1 rfl rfl)) (rd_lt (rd_of_row (hI1.res 1 rfl rfl))) (fun x hx hm => hI1.res_res 0 1 (by decide) rfl rfl rfl rfl x (List.mem_append.2 (.inl (rd_inR hx))) (rd_inR hm)) (by omega) (by omega) (fun p hp => ⟨(gd.1 p hp).se, (gd.1 p hp).id⟩) hgd; rw [verF_eq, hn, hlen] at h; exact h)) ?_; (refine gs ?_)
          have en : IntKind.i64.wrap (((T.fx.length : Nat) : Int) + (T.h.length : Nat)) = ((T.fx.length : Nat) : Int) + (T.h.length : Nat) := w64 (by omega) (by omega)
          have hn1 : (n : Int) < ((T.fx.length : Nat) : Int) + (T.h.length : Nat) := by omega
          (repeat ((first | refine n_must rfl ?_ | refine n_chk (drawF_ok (by decide +kernel)) ?_ | refine n_same rfl ?_ | ((first | refine n_must ?_ ?_ | refine n_brT ?_ ?_); (focus (first | (simp [en, hn1]; done) | (simp [en, hn1]; omega) | (simp only [en, hn1]; simp; done)))) | (refine n_brF ?_ ?_; (focus (first | (simp [en, hn1]; done) | (simp [en, hn1]; omega) | (simp only [en, hn1]; simp; done)))) | refine n_must (by (with_reducible refine and_shape ?_) <;> kernel_rfl) ?_); (refine gs ?_)))
          refine n_ret0 rfl rfl fun ids' w' hp hI' => ⟨ret_bool (by rw [en, decide_eq_true hn1]), hI'.frm⟩
    · (repeat ((first | refine n_must rfl ?_ | refine n_chk (drawF_ok (by decide +kernel)) ?_ | refine n_same rfl ?_ | ((first | refine n_must ?_ ?_ | refine n_brT ?_ ?_); (focus (first | (simp [k4]; done) | (simp [k4]; omega) | (simp only [k4]; simp; done)))) | (refine n_brF ?_ ?_; (focus (first | (simp [k4]; done) | (simp [k4]; omega) | (simp only [k4]; simp; done)))) | refine n_must (by (with_reducible refine and_shape ?_) <;> kernel_rfl) ?_); (refine gs ?_)))
      obtain ⟨hne, hwr⟩ := wrap_ne heg.va
      (first | (refine n_ldI (.int .i64 e.va) rfl rfl (fun _ w1 _ hI1 => load_cell aggInt (ef_cell (rd_of_row (hI1.res 1 rfl rfl)) hx 8 rfl (addT ⟨gv, 0, none⟩ k 9 8))) ?_; (refine gs ?_)) | (refine n_ldDI (.int .i64 e.va) rfl rfl (fun _ w1 _ hI1 => load_cell aggInt (ef_cell (rd_of_row (hI1.res 1 rfl rfl)) hx 8 rfl (addT ⟨gv, 0, none⟩ k 9 8))) ?_; (refine gs ?_)) | (refine n_ldRI (.int .i64 e.va) rfl (fun _ w1 _ hI1 => load_cell aggInt (ef_cell (rd_of_row (hI1.res 1 rfl rfl)) hx 8 rfl (addT ⟨gv, 0, none⟩ k 9 8))) ?_; (refine gs ?_)))
      refine gw ?_
      refine n_storeRow (g := gv) (off := k * 9 + 8) (k := 1) (rv := .int .i64 (IntKind.i64.wrap (e.va + 1))) (v := .int .i64 (IntKind.i64.wrap (e.va + 1))) 1 ((T.fx.set k { e with va := IntKind.i64.wrap (e.va + 1) }).flatMap Ef.l) rfl rfl rfl ((addT ⟨gv, 0, none⟩ k 9 8).trans (add_mk _ _)) rfl rfl sizeI17' rfl rfl rfl (by rw [flat_len ef_len]; omega) (flat_set1 ef_len hx (j := 8) (by omega) rfl) ?_
      (refine gs ?_)
      refine gw ?_
      have hgd := set_good { e with va := IntKind.i64.wrap (e.va + 1) } ⟨heg.se, heg.id, heg.nm, heg.a, hwr⟩
      have hlen := hlen { e with va := IntKind.i64.wrap (e.va + 1) }
      obtain ⟨n, hn, hnl⟩ := q.value hx (hpi ▸ hp) (by omega) hne
      refine n_sameP (ansS n 170) rfl rfl rfl (fun _ w1 hp1 hI1 => (by have h := cVerify_ok (o := some ⟨gh, 0, none⟩) (L := T.h) (oe := some ⟨gv, 0, none⟩) (E := T.fx.set k { e with va := IntKind.i64.wrap (e.va + 1) }) (w := w1) hc wc (rd_of_row (hI1.res 0 rfl rfl).1) (rd_lt (rd_of_row (hI1.res 0 rfl rfl).1)) (rd_of_row (hI1.res 1 rfl rfl)) (rd_lt (rd_of_row (hI1.res 1 rfl rfl))) (fun x hx hm => hI1.res_res 0 1 (by decide) rfl rfl rfl rfl x (List.mem_append.2 (.inl (rd_inR hx))) (rd_inR hm)) (by omega) (by omega) (fun p hp => ⟨(gd.1 p hp).se, (gd.1 p hp).id⟩) hgd; rw [verF_eq, hn, hlen] at h; exact h)) ?_; (refine gs ?_)
      have en : IntKind.i64.wrap (((T.fx.length : Nat) : Int) + (T.h.length : Nat)) = ((T.fx.length : Nat) : Int) + (T.h.length : Nat) := w64 (by omega) (by omega)
      have hn1 : (n : Int) < ((T.fx.length : Nat) : Int) + (T.h.length : Nat) := by omega
      (repeat ((first | refine n_must rfl ?_ | refine n_chk (drawF_ok (by decide +kernel)) ?_ | refine n_same rfl ?_ | ((first | refine n_must ?_ ?_ | refine n_brT ?_ ?_); (focus (first | (simp [en, hn1]; done) | (simp [en, hn1]; omega) | (simp only [en, hn1]; simp; done)))) | (refine n_brF ?_ ?_; (focus (first | (simp [en, hn1]; done) | (simp [en, hn1]; omega) | (simp only [en, hn1]; simp; done)))) | refine n_must (by (with_reducible refine and_shape ?_) <;> kernel_rfl) ?_); (refine gs ?_)))
      refine n_ret0 rfl rfl fun ids' w' hp hI' => ⟨ret_bool (by rw [en, decide_eq_true hn1]), hI'.frm⟩
  by_cases t3 : t = 3
  · (repeat ((first | refine n_must rfl ?_ | refine n_chk (drawF_ok (by decide +kernel)) ?_ | refine n_same rfl ?_ | ((first | refine n_must ?_ ?_ | refine n_brT ?_ ?_); (focus (first | (simp [t0, t1, t2, t3]; done) | (simp [t0, t1, t2, t3]; omega) | (simp only [t0, t1, t2, t3]; simp; done)))) | (refine n_brF ?_ ?_; (focus (first | (simp [t0, t1, t2, t3]; done) | (simp [t0, t1, t2, t3]; omega) | (simp only [t0, t1, t2, t3]; simp; done)))) | refine n_must (by (with_reducible refine and_shape ?_) <;> kernel_rfl) ?_); (refine gs ?_)))
    (first | (refine n_ldI (.int .i64 p.to) rfl rfl (fun _ w1 _ hI1 => load_cell aggInt (cp 7 rfl (hI1.res 0 rfl rfl) (by simp [add_add]))) ?_; (refine gs ?_)) | (refine n_ldDI (.int .i64 p.to) rfl rfl (fun _ w1 _ hI1 => load_cell aggInt (cp 7 rfl (hI1.res 0 rfl rfl) (by simp [add_add]))) ?_; (refine gs ?_)) | (refine n_ldRI (.int .i64 p.to) rfl (fun _ w1 _ hI1 => load_cell aggInt (cp 7 rfl (hI1.res 0 rfl rfl) (by simp [add_add]))) ?_; (refine gs ?_)))
    by_cases hto : p.to < 0
    · (repeat ((first | refine n_must rfl ?_ | refine n_chk (drawF_ok (by decide +kernel)) ?_ | refine n_same rfl ?_ | ((first | refine n_must ?_ ?_ | refine n_brT ?_ ?_); (focus (first | (simp [hto]; done) | (simp [hto]; omega) | (simp only [hto]; simp; done)))) | (refine n_brF ?_ ?_; (focus (first | (simp [hto]; done) | (simp [hto]; omega) | (simp only [hto]; simp; done)))) | refine n_must (by (with_reducible refine and_shape ?_) <;> kernel_rfl) ?_); (refine gs ?_)))
      exact n_ret0 rfl rfl fun ids' w' hp hI' => ⟨rfl, hI'.frm⟩
    (repeat ((first | refine n_must rfl ?_ | refine n_chk (drawF_ok (by decide +kernel)) ?_ | refine n_same rfl ?_ | ((first | refine n_must ?_ ?_ | refine n_brT ?_ ?_); (focus (first | (simp [hto]; done) | (simp [hto]; omega) | (simp only [hto]; simp; done)))) | (refine n_brF ?_ ?_; (focus (first | (simp [hto]; done) | (simp [hto]; omega) | (simp only [hto]; simp; done)))) | refine n_must (by (with_reducible refine and_shape ?_) <;> kernel_rfl) ?_); (refine gs ?_)))
    (first | (refine n_ldI (.int .i64 p.er) rfl rfl (fun _ w1 _ hI1 => load_cell aggErr (cp 8 rfl (hI1.res 0 rfl rfl) (by simp [add_add]))) ?_; (refine gs ?_)) | (refine n_ldDI (.int .i64 p.er) rfl rfl (fun _ w1 _ hI1 => load_cell aggErr (cp 8 rfl (hI1.res 0 rfl rfl) (by simp [add_add]))) ?_; (refine gs ?_)) | (refine n_ldRI (.int .i64 p.er) rfl (fun _ w1 _ hI1 => load_cell aggErr (cp 8 rfl (hI1.res 0 rfl rfl) (by simp [add_add]))) ?_; (refine gs ?_)))
    by_cases her : p.er = 111
    · (repeat ((first | refine n_must rfl ?_ | refine n_chk (drawF_ok (by decide +kernel)) ?_ | refine n_same rfl ?_ | ((first | refine n_must ?_ ?_ | refine n_brT ?_ ?_); (focus (first | (simp [her]; done) | (simp [her]; omega) | (simp only [her]; simp; done)))) | (refine n_brF ?_ ?_; (focus (first | (simp [her]; done) | (simp [her]; omega) | (simp only [her]; simp; done)))) | refine n_must (by (with_reducible refine and_shape ?_) <;> kernel_rfl) ?_); (refine gs ?_)))
      exact n_ret0 rfl rfl fun ids' w' hp hI' => ⟨rfl, hI'.frm⟩
    have eto : IntKind.i64.wrap (p.to + 1) = p.to + 1 := w64 (by omega) (by omega)
    by_cases hk1 : k + 1 < T.fx.length
    · have hx1 : T.fx[k + 1]? = some T.fx[k + 1] := List.getElem?_eq_getElem hk1
      generalize T.fx[k + 1] = d at hx1
      (repeat ((first | refine n_must rfl ?_ | refine n_chk (drawF_ok (by decide +kernel)) ?_ | refine n_same rfl ?_ | ((first | refine n_must ?_ ?_ | refine n_brT ?_ ?_); (focus (first | (simp [her, ek, hk1]; done) | (simp [her, ek, hk1]; omega) | (simp only [her, ek, hk1]; simp; done)))) | (refine n_brF ?_ ?_; (focus (first | (simp [her, ek, hk1]; done) | (simp [her, ek, hk1]; omega) | (simp only [her, ek, hk1]; simp; done)))) | refine n_must (by (with_reducible refine and_shape ?_) <;> kernel_rfl) ?_); (refine gs ?_)))
      (first | (refine n_ldI (.int .i64 d.sp) rfl rfl (fun _ w1 _ hI1 => load_cell aggInt (ef_cell (rd_of_row (hI1.res 1 rfl rfl)) hx1 0 rfl (by rw [ek]; exact addT ⟨gv, 0, none⟩ (k + 1) 9 0))) ?_; (refine gs ?_)) | (refine n_ldDI (.int .i64 d.sp) rfl rfl (fun _ w1 _ hI1 => load_cell aggInt (ef_cell (rd_of_row (hI1.res 1 rfl rfl)) hx1 0 rfl (by rw [ek]; exact addT ⟨gv, 0, none⟩ (k + 1) 9 0))) ?_; (refine gs ?_)) | (refine n_ldRI (.int .i64 d.sp) rfl (fun _ w1 _ hI1 => load_cell aggInt (ef_cell (rd_of_row (hI1.res 1 rfl rfl)) hx1 0 rfl (by rw [ek]; exact addT ⟨gv, 0, none⟩ (k + 1) 9 0))) ?_; (refine gs ?_)))
      refine gw ?_
      (first | (refine n_ldI (.int .i64 p.to) rfl rfl (fun _ w1 _ hI1 => load_cell aggInt (cp 7 rfl (hI1.res 0 rfl rfl) (by simp [add_add]))) ?_; (refine gs ?_)) | (refine n_ldDI (.int .i64 p.to) rfl rfl (fun _ w1 _ hI1 => load_cell aggInt (cp 7 rfl (hI1.res 0 rfl rfl) (by simp [add_add]))) ?_; (refine gs ?_)) | (refine n_ldRI (.int .i64 p.to) rfl (fun _ w1 _ hI1 => load_cell aggInt (cp 7 rfl (hI1.res 0 rfl rfl) (by simp [add_add]))) ?_; (refine gs ?_)))
      by_cases hds : d.sp < p.to + 1
      · (repeat ((first | refine n_must rfl ?_ | refine n_chk (drawF_ok (by decide +kernel)) ?_ | refine n_same rfl ?_ | ((first | refine n_must ?_ ?_ | refine n_brT ?_ ?_); (focus (first | (simp [eto, hds]; done) | (simp [eto, hds]; omega) | (simp only [eto, hds]; simp; done)))) | (refine n_brF ?_ ?_; (focus (first | (simp [eto, hds]; done) | (simp [eto, hds]; omega) | (simp only [eto, hds]; simp; done)))) | refine n_must (by (with_reducible refine and_shape ?_) <;> kernel_rfl) ?_); (refine gs ?_)))
        exact n_ret0 rfl rfl fun ids' w' hp hI' => ⟨rfl, hI'.frm⟩
      · (repeat ((first | refine n_must rfl ?_ | refine n_chk (drawF_ok (by decide +kernel)) ?_ | refine n_same rfl ?_ | ((first | refine n_must ?_ ?_ | refine n_brT ?_ ?_); (focus (first | (simp [eto, hds]; done) | (simp [eto, hds]; omega) | (simp only [eto, hds]; simp; done)))) | (refine n_brF ?_ ?_; (focus (first | (simp [eto, hds]; done) | (simp [eto, hds]; omega) | (simp only [eto, hds]; simp; done)))) | refine n_must (by (with_reducible refine and_shape ?_) <;> kernel_rfl) ?_); (refine gs ?_)))
        (first | (refine n_ldI (.int .i64 p.to) rfl rfl (fun _ w1 _ hI1 => load_cell aggInt (cp 7 rfl (hI1.res 0 rfl rfl) (by simp [add_add]))) ?_; (refine gs ?_)) | (refine n_ldDI (.int .i64 p.to) rfl rfl (fun _ w1 _ hI1 => load_cell aggInt (cp 7 rfl (hI1.res 0 rfl rfl) (by simp [add_add]))) ?_; (refine gs ?_)) | (refine n_ldRI (.int .i64 p.to) rfl (fun _ w1 _ hI1 => load_cell aggInt (cp 7 rfl (hI1.res 0 rfl rfl) (by simp [add_add]))) ?_; (refine gs ?_)))
        refine gw ?_
        refine n_storeRow (g := gv) (off := k * 9) (k := 1) (rv := .int .i64 (IntKind.i64.wrap (p.to + 1))) (v := .int .i64 (IntKind.i64.wrap (p.to + 1))) 1 ((T.fx.set k { e with sp := p.to + 1 }).flatMap Ef.l) rfl rfl rfl ((addT ⟨gv, 0, none⟩ k 9 0).trans (add_mk _ _)) rfl rfl sizeI17' rfl rfl rfl (by rw [flat_len ef_len]; omega) (by rw [eto]; exact flat_set1 ef_len hx (j := 0) (by omega) rfl) ?_
        (refine gs ?_)
        refine gw ?_
        have hgd := set_good { e with sp := p.to + 1 } ⟨heg.se, heg.id, heg.nm, heg.a, heg.va⟩
        have hlen := hlen { e with sp := p.to + 1 }
        obtain ⟨n, hn, hnl⟩ := q.late (sp := p.to + 1) hx (hpi ▸ hp) (by omega) (by omega)
        refine n_sameP (ansS n 170) rfl rfl rfl (fun _ w1 hp1 hI1 => (by have h := cVerify_ok (o := some ⟨gh, 0, none⟩) (L := T.h) (oe := some ⟨gv, 0, none⟩) (E := T.fx.set k { e with sp := p.to + 1 }) (w := w1) hc wc (rd_of_row (hI1.res 0 rfl rfl).1) (rd_lt (rd_of_row (hI1.res 0 rfl rfl).1)) (rd_of_row (hI1.res 1 rfl rfl)) (rd_lt (rd_of_row (hI1.res 1 rfl rfl))) (fun x hx hm => hI1.res_res 0 1 (by decide) rfl rfl rfl rfl x (List.mem_append.2 (.inl (rd_inR hx))) (rd_inR hm)) (by omega) (by omega) (fun p hp => ⟨(gd.1 p hp).se, (gd.1 p hp).id⟩) hgd; rw [verF_eq, hn, hlen] at h; exact h)) ?_; (refine gs ?_)
        have en : IntKind.i64.wrap (((T.fx.length : Nat) : Int) + (T.h.length : Nat)) = ((T.fx.length : Nat) : Int) + (T.h.length : Nat) := w64 (by omega) (by omega)
        have hn1 : (n : Int) < ((T.fx.length : Nat) : Int) + (T.h.length : Nat) := by omega
        (repeat ((first | refine n_must rfl ?_ | refine n_chk (drawF_ok (by decide +kernel)) ?_ | refine n_same rfl ?_ | ((first | refine n_must ?_ ?_ | refine n_brT ?_ ?_); (focus (first | (simp [en, hn1]; done) | (simp [en, hn1]; omega) | (simp only [en, hn1]; simp; done)))) | (refine n_brF ?_ ?_; (focus (first | (simp [en, hn1]; done) | (simp [en, hn1]; omega) | (simp only [en, hn1]; simp; done)))) | refine n_must (by (with_reducible refine and_shape ?_) <;> kernel_rfl) ?_); (refine gs ?_)))
        refine n_ret0 rfl rfl fun ids' w' hp hI' => ⟨ret_bool (by rw [en, decide_eq_true hn1]), hI'.frm⟩
    · (repeat ((first | refine n_must rfl ?_ | refine n_chk (drawF_ok (by decide +kernel)) ?_ | refine n_same rfl ?_ | ((first | refine n_must ?_ ?_ | refine n_brT ?_ ?_); (focus (first | (simp [her, ek, hk1]; done) | (simp [her, ek, hk1]; omega) | (simp only [her, ek, hk1]; simp; done)))) | (refine n_brF ?_ ?_; (focus (first | (simp [her, ek, hk1]; done) | (simp [her, ek, hk1]; omega) | (simp only [her, ek, hk1]; simp; done)))) | refine n_must (by (with_reducible refine and_shape ?_) <;> kernel_rfl) ?_); (refine gs ?_)))
      (first | (refine n_ldI (.int .i64 p.to) rfl rfl (fun _ w1 _ hI1 => load_cell aggInt (cp 7 rfl (hI1.res 0 rfl rfl) (by simp [add_add]))) ?_; (refine gs ?_)) | (refine n_ldDI (.int .i64 p.to) rfl rfl (fun _ w1 _ hI1 => load_cell aggInt (cp 7 rfl (hI1.res 0 rfl rfl) (by simp [add_add]))) ?_; (refine gs ?_)) | (refine n_ldRI (.int .i64 p.to) rfl (fun _ w1 _ hI1 => load_cell aggInt (cp 7 rfl (hI1.res 0 rfl rfl) (by simp [add_add]))) ?_; (refine gs ?_)))
      refine gw ?_
      refine n_storeRow (g := gv) (off := k * 9) (k := 1) (rv := .int .i64 (IntKind.i64.wrap (p.to + 1))) (v := .int .i64 (IntKind.i64.wrap (p.to + 1))) 1 ((T.fx.set k { e with sp := p.to + 1 }).flatMap Ef.l) rfl rfl rfl ((addT ⟨gv, 0, none⟩ k 9 0).trans (add_mk _ _)) rfl rfl sizeI17' rfl rfl rfl (by rw [flat_len ef_len]; omega) (by rw [eto]; exact flat_set1 ef_len hx (j := 0) (by omega) rfl) ?_
      (refine gs ?_)
      refine gw ?_
      have hgd := set_good { e with sp := p.to + 1 } ⟨heg.se, heg.id, heg.nm, heg.a, heg.va⟩
      have hlen := hlen { e with sp := p.to + 1 }
      obtain ⟨n, hn, hnl⟩ := q.late (sp := p.to + 1) hx (hpi ▸ hp) (by omega) (by omega)
      refine n_sameP (ansS n 170) rfl rfl rfl (fun _ w1 hp1 hI1 => (by have h := cVerify_ok (o := some ⟨gh, 0, none⟩) (L := T.h) (oe := some ⟨gv, 0, none⟩) (E := T.fx.set k { e with sp := p.to + 1 }) (w := w1) hc wc (rd_of_row (hI1.res 0 rfl rfl).1) (rd_lt (rd_of_row (hI1.res 0 rfl rfl).1)) (rd_of_row (hI1.res 1 rfl rfl)) (rd_lt (rd_of_row (hI1.res 1 rfl rfl))) (fun x hx hm => hI1.res_res 0 1 (by decide) rfl rfl rfl rfl x (List.mem_append.2 (.inl (rd_inR hx))) (rd_inR hm)) (by omega) (by omega) (fun p hp => ⟨(gd.1 p hp).se, (gd.1 p hp).id⟩) hgd; rw [verF_eq, hn, hlen] at h; exact h)) ?_; (refine gs ?_)
      have en : IntKind.i64.wrap (((T.fx.length : Nat) : Int) + (T.h.length : Nat)) = ((T.fx.length : Nat) : Int) + (T.h.length : Nat) := w64 (by omega) (by omega)
      have hn1 : (n : Int) < ((T.fx.length : Nat) : Int) + (T.h.length : Nat) := by omega
      (repeat ((first | refine n_must rfl ?_ | refine n_chk (drawF_ok (by decide +kernel)) ?_ | refine n_same rfl ?_ | ((first | refine n_must ?_ ?_ | refine n_brT ?_ ?_); (focus (first | (simp [en, hn1]; done) | (simp [en, hn1]; omega) | (simp only [en, hn1]; simp; done)))) | (refine n_brF ?_ ?_; (focus (first | (simp [en, hn1]; done) | (simp [en, hn1]; omega) | (simp only [en, hn1]; simp; done)))) | refine n_must (by (with_reducible refine and_shape ?_) <;> kernel_rfl) ?_); (refine gs ?_)))
      refine n_ret0 rfl rfl fun ids' w' hp hI' => ⟨ret_bool (by rw [en, decide_eq_true hn1]), hI'.frm⟩
  have t4 : t = 4 := by omega
  (repeat ((first | refine n_must rfl ?_ | refine n_chk (drawF_ok (by decide +kernel)) ?_ | refine n_same rfl ?_ | ((first | refine n_must ?_ ?_ | refine n_brT ?_ ?_); (focus (first | (simp [t0, t1, t2, t3, t4]; done) | (simp [t0, t1, t2, t3, t4]; omega) | (simp only [t0, t1, t2, t3, t4]; simp; done)))) | (refine n_brF ?_ ?_; (focus (first | (simp [t0, t1, t2, t3, t4]; done) | (simp [t0, t1, t2, t3, t4]; omega) | (simp only [t0, t1, t2, t3, t4]; simp; done)))) | refine n_must (by (with_reducible refine and_shape ?_) <;> kernel_rfl) ?_); (refine gs ?_)))
  have efr : IntKind.i64.wrap (p.fr - 1) = p.fr - 1 := w64 (by omega) (by omega)
  (first | (refine n_ldI (.int .i64 p.fr) rfl rfl (fun _ w1 _ hI1 => load_cell aggInt (cp 6 rfl (hI1.res 0 rfl rfl) (by simp [add_add]))) ?_; (refine gs ?_)) | (refine n_ldDI (.int .i64 p.fr) rfl rfl (fun _ w1 _ hI1 => load_cell aggInt (cp 6 rfl (hI1.res 0 rfl rfl) (by simp [add_add]))) ?_; (refine gs ?_)) | (refine n_ldRI (.int .i64 p.fr) rfl (fun _ w1 _ hI1 => load_cell aggInt (cp 6 rfl (hI1.res 0 rfl rfl) (by simp [add_add]))) ?_; (refine gs ?_)))
  refine gw ?_
  refine n_storeRow (g := gv) (off := k * 9) (k := 1) (rv := .int .i64 (IntKind.i64.wrap (p.fr - 1))) (v := .int .i64 (IntKind.i64.wrap (p.fr - 1))) 1 ((T.fx.set k { e with sp := p.fr - 1 }).flatMap Ef.l) rfl rfl rfl ((addT ⟨gv, 0, none⟩ k 9 0).trans (add_mk _ _)) rfl rfl sizeI17' rfl rfl rfl (by rw [flat_len ef_len]; omega) (by rw [efr]; exact flat_set1 ef_len hx (j := 0) (by omega) rfl) ?_
  (refine gs ?_)
  refine gw ?_
  have hgd := set_good { e with sp := p.fr - 1 } ⟨heg.se, heg.id, heg.nm, heg.a, heg.va⟩
  have hlen := hlen { e with sp := p.fr - 1 }
  obtain ⟨n, hn, hnl⟩ := q.early (sp := p.fr - 1) hx (hpi ▸ hp) (by omega)
  refine n_sameP (ansS n 170) rfl rfl rfl (fun _ w1 hp1 hI1 => (by have h := cVerify_ok (o := some ⟨gh, 0, none⟩) (L := T.h) (oe := some ⟨gv, 0, none⟩) (E := T.fx.set k { e with sp := p.fr - 1 }) (w := w1) hc wc (rd_of_row (hI1.res 0 rfl rfl).1) (rd_lt (rd_of_row (hI1.res 0 rfl rfl).1)) (rd_of_row (hI1.res 1 rfl rfl)) (rd_lt (rd_of_row (hI1.res 1 rfl rfl))) (fun x hx hm => hI1.res_res 0 1 (by decide) rfl rfl rfl rfl x (List.mem_append.2 (.inl (rd_inR hx))) (rd_inR hm)) (by omega) (by omega) (fun p hp => ⟨(gd.1 p hp).se, (gd.1 p hp).id⟩) hgd; rw [verF_eq, hn, hlen] at h; exact h)) ?_; (refine gs ?_)
  have en : IntKind.i64.wrap (((T.fx.length : Nat) : Int) + (T.h.length : Nat)) = ((T.fx.length : Nat) : Int) + (T.h.length : Nat) := w64 (by omega) (by omega)
  have hn1 : (n : Int) < ((T.fx.length : Nat) : Int) + (T.h.length : Nat) := by omega
  (repeat ((first | refine n_must rfl ?_ | refine n_chk (drawF_ok (by decide +kernel)) ?_ | refine n_same rfl ?_ | ((first | refine n_must ?_ ?_ | refine n_brT ?_ ?_); (focus (first | (simp [en, hn1]; done) | (simp [en, hn1]; omega) | (simp only [en, hn1]; simp; done)))) | (refine n_brF ?_ ?_; (focus (first | (simp [en, hn1]; done) | (simp [en, hn1]; omega) | (simp only [en, hn1]; simp; done)))) | refine n_must (by (with_reducible refine and_shape ?_) <;> kernel_rfl) ?_); (refine gs ?_)))
  refine n_ret0 rfl rfl fun ids' w' hp hI' => ⟨ret_bool (by rw [en, decide_eq_true hn1]), hI'.frm⟩
end Go.Proofs.Ytfcbcgjgkleonaa
