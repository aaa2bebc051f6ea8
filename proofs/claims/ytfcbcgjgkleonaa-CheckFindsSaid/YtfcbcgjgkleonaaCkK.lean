/- sluiceref17: Verify, walked. -/
import Derived.Test.YtfcbcgjgkleonaaCkJ
set_option maxRecDepth 100000
set_option linter.unusedSimpArgs false
set_option linter.unusedVariables false
set_option maxHeartbeats 8000000
namespace Go.Proofs.Ytfcbcgjgkleonaa
open Go.RowKit

def svB (k b : Bool) : SV := if k then litB b else .bool b
theorem rVerify_ok {o : Option Addr} {L : List Pa} {oe : Option Addr} {E : List Ef} {w : World} (cap cape : Nat) (hR : (paRes o L).R w) (hlt : ∀ x ∈ (paRes o L).fp, x < w.heap.size) (hE : (efRes oe E).R w) (hElt : ∀ x ∈ (efRes oe E).fp, x < w.heap.size)
    (hl : L.length ≤ 1759218604390) (hle : E.length ≤ 1759218604390) :
    Calls Try.prog 23 #[.slice o L.length cap, .slice oe E.length cape] w fun x w' => x = .returned (ansV (verF L E (alR E)).1 (verF L E (alR E)).2) ∧ Frm [] w w' := by
  have hI0 : Inv (cx 85 [] [] w) w [0] [⟨55, [.res (paRes o L)], false⟩] := (Inv.nil w).consR (by simp) hR hlt (by simp)
  have hI := hI0.consR (t := 52) (rw_ := false) (r := Res.none) (by simp [Res.none]) trivial (by simp [Res.none]) (by simp [Res.none])
  have hE1 : ∀ w1, Frm [] w w1 → (efRes oe E).R w1 := fun w1 hf => (efRes oe E).stable _ _ (fun k hk => hf.block k (hElt k hk) (by simp)) hE
  have hElt1 : ∀ w1, Frm [] w w1 → ∀ x ∈ (efRes oe E).fp, x < w1.heap.size := fun w1 hf x hx => Nat.lt_of_lt_of_le (hElt x hx) hf.size
  refine calls_sm (cx 85 [] [] w) (vals := [.raw (.slice o L.length cap), .raw (.slice oe E.length cape)]) mixed Try.func23 rfl rfl rfl hI rfl (st rfl ?_); conv => arg 3; whnf
  refine gg ?_
  refine n_sameP (.bool (rightH L)) rfl rfl rfl (fun _ w1 hp1 hI1 => rRight17_ok cap (hI1.res 0 rfl rfl) (hI1.resLt 0 rfl rfl) (by omega)) ?_; (refine gs ?_)
  by_cases hr : rightH L = false
  · (repeat ((first | refine n_must rfl ?_ | refine n_chk (drawF_ok (by decide +kernel)) ?_ | refine n_same rfl ?_ | ((first | refine n_must ?_ ?_ | refine n_brT ?_ ?_); (focus (first | (simp [hr]; done) | (simp [hr]; omega) | (simp only [hr]; simp; done)))) | (refine n_brF ?_ ?_; (focus (first | (simp [hr]; done) | (simp [hr]; omega) | (simp only [hr]; simp; done)))) | refine n_must (by (with_reducible refine and_shape ?_) <;> kernel_rfl) ?_); (refine gs ?_)))
    have e : verF L E (alR E) = (0, 1) := by rw [verF, if_pos hr]
    rw [e]
    exact n_ret0 rfl rfl fun ids' w' hp hI' => ⟨rfl, hI'.frm⟩
  have hr' : rightH L = true := by simpa using hr
  have hV : verF L E (alR E) = match firstBadN E.length (vOk L E (alR E)) with
      | some i => ((i : Int), 170)
      | none => match firstBadN L.length (mOk L E) with
        | some i => ((E.length : Int) + i, 170)
        | none => (0, 0) := by rw [verF, if_neg hr]; rfl
  (repeat ((first | refine n_must rfl ?_ | refine n_chk (drawF_ok (by decide +kernel)) ?_ | refine n_same rfl ?_ | ((first | refine n_must ?_ ?_ | refine n_brT ?_ ?_); (focus (first | (simp [hr']; done) | (simp [hr']; omega) | (simp only [hr']; simp; done)))) | (refine n_brF ?_ ?_; (focus (first | (simp [hr']; done) | (simp [hr']; omega) | (simp only [hr']; simp; done)))) | refine n_must (by (with_reducible refine and_shape ?_) <;> kernel_rfl) ?_); (refine gs ?_)))
  refine n_callN (fun y : Nat => rmaRes y (none, 0) [] G0) 111 (fun y => .raw (pV y)) (fun y => pV y) (fun _ => True) rfl rfl rfl (fun _ => rfl) (fun w1 hI1 => rmNewA_ok w1) ?_
  intro q _ hnew
  (refine gs ?_)
  refine gw ?_
  refine n_loop (σ := Nat × (Option Addr × Nat) × List Rc × List Rw) (fun t => [(0, .raw (.slice o L.length cap)), (1, .raw (.slice oe E.length cape)), (6, .raw (pV q)), (7, .int .i64 (t.1 : Nat))]) (fun t => [⟨55, [.res (paRes o L)], false⟩, ⟨52, [.res Res.none], false⟩, ⟨111, [.res (rmaRes q t.2.1 t.2.2.1 t.2.2.2)], true⟩]) (fun t => t.1 ≤ E.length ∧ (∀ j, j < t.1 → vOk L E (alR E) j = true) ∧ ks t.2.2.1 = stR E t.1 ∧ AllIn t.2.2.2 t.2.2.1 ∧ NilG t.2.2.2) (fun t => E.length - t.1) (0, (none, 0), [], G0) mixed ⟨by simp, by intro j h; simp at h, rfl, fun c hc => by simp at hc, G0_nil⟩ (fun _ _ => rfl) rfl (by (repeat (first | exact trivial | refine ⟨⟨rfl, rfl⟩, ?_⟩))) (fun s _ => ⟨by (repeat (first | exact trivial | refine ⟨⟨_, rfl⟩, ?_⟩)), by (repeat (first | exact trivial | refine ⟨⟨_, rfl⟩, ?_⟩))⟩) fun t hi => ?_
  obtain ⟨i, y, A, G⟩ := t
  obtain ⟨hi, hJ, hks, hin, hng⟩ := hi
  dsimp only at hi hJ hks hin hng ⊢
  (refine gs ?_)
  by_cases hlt2 : i < E.length
  · have ei : IntKind.i64.wrap ((i : Int) + 1) = ((i + 1 : Nat) : Int) := by rw [w64 (by omega) (by omega)]; simp
    have hx : E[i]? = some E[i] := List.getElem?_eq_getElem _
    obtain ⟨ae, rfl⟩ := rd_some ef_len (by omega) hE (by omega)
    generalize E[i] = e at hx
    have hv : vOk L E (alR E) i = (fitsF L E i e && alR E i e) := by unfold vOk; rw [hx]
    obtain ⟨f1, f2⟩ := stR_fit E i hi
    have hnx := stR_next hx
    have hAl : A.length = (stR E i).length := by rw [← hks]; simp [ks]
    refine gw ?_
    refine n_sameP (.bool (fitsF L E i e)) rfl rfl rfl (fun _ w1 hp1 hI1 => rFits_ok cap cape (hI1.res 0 rfl rfl) (hI1.resLt 0 rfl rfl) (hE1 _ hI1.frm) (hElt1 _ hI1.frm) (by omega) (by omega) hx) ?_; (refine gs ?_)
    by_cases hf : fitsF L E i e = true
    · (repeat ((first | refine n_must rfl ?_ | refine n_chk (drawF_ok (by decide +kernel)) ?_ | refine n_same rfl ?_ | ((first | refine n_must ?_ ?_ | refine n_brT ?_ ?_); (focus (first | (simp [hf]; done) | (simp [hf]; omega) | (simp only [hf]; simp; done)))) | (refine n_brF ?_ ?_; (focus (first | (simp [hf]; done) | (simp [hf]; omega) | (simp only [hf]; simp; done)))) | refine n_must (by (with_reducible refine and_shape ?_) <;> kernel_rfl) ?_); (refine gs ?_)))
      refine n_ldI (.agg e.sv) rfl rfl (fun _ w1 _ hI1 => ef_row (hE1 _ hI1.frm) hx (by simp)) ?_
      (refine gs ?_)
      (repeat ((first | refine n_must rfl ?_ | refine n_chk (drawF_ok (by decide +kernel)) ?_ | refine n_same rfl ?_ | ((first | refine n_must ?_ ?_ | refine n_brT ?_ ?_); (focus (first | (simp [hf]; done) | (simp [hf]; omega) | (simp only [hf]; simp; done)))) | (refine n_brF ?_ ?_; (focus (first | (simp [hf]; done) | (simp [hf]; omega) | (simp only [hf]; simp; done)))) | refine n_must (by (with_reducible refine and_shape ?_) <;> kernel_rfl) ?_); (refine gs ?_)))
      refine n_callR (Y := (Option Addr × Nat) × List Rc × List Rw) 2 (ρ := rmaRes q y A G) (fun z => rmaRes q z.1 z.2.1 z.2.2) (fun _ => .bool (alR E i e)) (fun _ => .bool (alR E i e)) (fun z => ks z.2.1 = stR E (i + 1) ∧ AllIn z.2.2 z.2.1 ∧ ∀ r ∈ G, r ∈ z.2.2) rfl rfl (fun _ => rfl) rfl rfl rfl (fun _ w1 hp1 hI1 hR => (rmAllows_ok hR hin hng (by rw [hks]; intro c hc; obtain ⟨g1, g2, g3⟩ := f1 c hc; exact ⟨g1.in_, by omega, by omega⟩) (by omega) e.sp e.se e.id e.k e.nm e.a e.b e.er e.va).mono ?_) ?_
      · rintro x w2 ⟨z, hz, ⟨h1, h2, h3⟩, hP⟩
        rw [hks] at hz h1
        exact ⟨z, hz, ⟨by rw [h1, hnx]; unfold stepR; split <;> rfl, h2, h3⟩, hP⟩
      rintro ⟨y2, A2, G2⟩ ⟨g1, g2, g3⟩
      dsimp only at g1 g2 g3
      (refine gs ?_)
      by_cases ha : alR E i e = true
      · (repeat ((first | refine n_must rfl ?_ | refine n_chk (drawF_ok (by decide +kernel)) ?_ | refine n_same rfl ?_ | ((first | refine n_must ?_ ?_ | refine n_brT ?_ ?_); (focus (first | (simp [ha]; done) | (simp [ha]; omega) | (simp only [ha]; simp; done)))) | (refine n_brF ?_ ?_; (focus (first | (simp [ha]; done) | (simp [ha]; omega) | (simp only [ha]; simp; done)))) | refine n_must (by (with_reducible refine and_shape ?_) <;> kernel_rfl) ?_); (refine gs ?_)))
        refine n_again ⟨(i + 1, y2, A2, G2), ⟨by dsimp only; omega, fun j hj => ?_, g1, g2, g3 _ hng.1, g3 _ hng.2⟩, by dsimp only; omega, (by (repeat (first | exact trivial | refine ⟨⟨rfl, rfl⟩, ?_⟩ | refine ⟨⟨rfl, congrArg (SV.int .i64) ei⟩, ?_⟩))), ⟨_, rfl⟩⟩
        by_cases e' : j = i
        · subst e'; rw [hv, hf, ha]; rfl
        · exact hJ j (by dsimp only at hj; omega)
      · have ha' : alR E i e = false := by simpa using ha
        (repeat ((first | refine n_must rfl ?_ | refine n_chk (drawF_ok (by decide +kernel)) ?_ | refine n_same rfl ?_ | ((first | refine n_must ?_ ?_ | refine n_brT ?_ ?_); (focus (first | (simp [ha']; done) | (simp [ha']; omega) | (simp only [ha']; simp; done)))) | (refine n_brF ?_ ?_; (focus (first | (simp [ha']; done) | (simp [ha']; omega) | (simp only [ha']; simp; done)))) | refine n_must (by (with_reducible refine and_shape ?_) <;> kernel_rfl) ?_); (refine gs ?_)))
        refine n_leave ?_
        have hb : vOk L E (alR E) i = false := by rw [hv, hf, ha']; rfl
        have e0 : verF L E (alR E) = ((i : Int), 170) := by rw [hV, firstBadN_some hlt2 hJ hb]
        rw [e0]
        exact n_ret0 rfl rfl fun ids' w' hp hI' => ⟨rfl, hI'.frm⟩
    · have hf' : fitsF L E i e = false := by simpa using hf
      (repeat ((first | refine n_must rfl ?_ | refine n_chk (drawF_ok (by decide +kernel)) ?_ | refine n_same rfl ?_ | ((first | refine n_must ?_ ?_ | refine n_brT ?_ ?_); (focus (first | (simp [hf']; done) | (simp [hf']; omega) | (simp only [hf']; simp; done)))) | (refine n_brF ?_ ?_; (focus (first | (simp [hf']; done) | (simp [hf']; omega) | (simp only [hf']; simp; done)))) | refine n_must (by (with_reducible refine and_shape ?_) <;> kernel_rfl) ?_); (refine gs ?_)))
      refine n_leave ?_
      have hb : vOk L E (alR E) i = false := by rw [hv, hf', Bool.false_and]
      have e0 : verF L E (alR E) = ((i : Int), 170) := by rw [hV, firstBadN_some hlt2 hJ hb]
      rw [e0]
      exact n_ret0 rfl rfl fun ids' w' hp hI' => ⟨rfl, hI'.frm⟩
  · obtain rfl : i = E.length := by omega
    rw [firstBadN_none hJ] at hV
    dsimp only at hV
    refine gw ?_
    refine n_exit rfl ?_
    (refine gs ?_)
    refine gw ?_
    refine n_loop (σ := Nat) (fun t => [(0, .raw (.slice o L.length cap)), (1, .raw (.slice oe E.length cape)), (8, .int .i64 (t : Nat))]) (fun t => [⟨55, [.res (paRes o L)], false⟩, ⟨52, [.res Res.none], false⟩, ⟨111, [.res (rmaRes q y A G)], true⟩]) (fun t => t ≤ L.length ∧ (∀ j, j < t → mOk L E j = true)) (fun t => L.length - t) 0 mixed ⟨by simp, by intro j h; simp at h⟩ (fun _ _ => rfl) rfl (by (repeat (first | exact trivial | refine ⟨⟨rfl, rfl⟩, ?_⟩))) (fun s _ => ⟨by (repeat (first | exact trivial | refine ⟨⟨_, rfl⟩, ?_⟩)), by (repeat (first | exact trivial | refine ⟨⟨_, rfl⟩, ?_⟩))⟩) fun i hi2 => ?_
    obtain ⟨hi2, hJ2⟩ := hi2
    (refine gs ?_)
    by_cases hlt3 : i < L.length
    · have ei : IntKind.i64.wrap ((i : Int) + 1) = ((i + 1 : Nat) : Int) := by rw [w64 (by omega) (by omega)]; simp
      have hx : L[i]? = some L[i] := List.getElem?_eq_getElem _
      obtain ⟨ad, rfl⟩ := rd_some pa_len (by omega) hR (by omega)
      generalize L[i] = p at hx
      have hm : mOk L E i = !(decide (sortF p = 2) && !thereF E p.call) := by unfold mOk; rw [hx]
      refine gw ?_
      refine n_loop (σ := Nat × Bool) (fun t => [(0, .raw (.slice (some ad) L.length cap)), (1, .raw (.slice oe E.length cape)), (8, .int .i64 (i : Nat)), (9, svB t.2 (thereF (E.take t.1) p.call)), (10, .int .i64 (t.1 : Nat))]) (fun t => [⟨55, [.res (paRes (some ad) L)], false⟩, ⟨52, [.res Res.none], false⟩, ⟨111, [.res (rmaRes q y A G)], true⟩]) (fun t => t.1 ≤ E.length) (fun t => E.length - t.1) (0, true) mixed (by simp) (fun _ _ => rfl) rfl (by (repeat (first | exact trivial | refine ⟨⟨rfl, rfl⟩, ?_⟩))) (fun t _ => ⟨by obtain ⟨t, k⟩ := t; cases k <;> cases h : thereF (E.take t) p.call <;> dsimp only <;> (repeat (first | exact trivial | refine ⟨⟨_, rfl⟩, ?_⟩)), by (repeat (first | exact trivial | refine ⟨⟨_, rfl⟩, ?_⟩))⟩) fun t ht => ?_
      obtain ⟨t, kd⟩ := t
      dsimp only at ht ⊢
      by_cases hlt4 : t < E.length
      · have et : IntKind.i64.wrap ((t : Int) + 1) = ((t + 1 : Nat) : Int) := by rw [w64 (by omega) (by omega)]; simp
        have hy : E[t]? = some E[t] := List.getElem?_eq_getElem _
        obtain ⟨ae, rfl⟩ := rd_some ef_len (by omega) hE (by omega)
        generalize E[t] = d at hy
        have hnx : thereF (E.take (t + 1)) p.call = (thereF (E.take t) p.call || decide (0 ≤ d.se ∧ d.call = p.call)) := by unfold thereF; rw [take_next hy]; simp
        generalize thereF (E.take t) p.call = T at hnx
        cases kd with
        | true =>
          cases T with
          | true =>
            (refine gs ?_)
            refine gw ?_
            rw [Bool.true_or] at hnx
            refine n_again ⟨(t + 1, true), by dsimp only; omega, by dsimp only; omega, ?_, ⟨_, rfl⟩⟩
            dsimp only
            rw [hnx]; exact (by (repeat (first | exact trivial | refine ⟨⟨rfl, rfl⟩, ?_⟩ | refine ⟨⟨rfl, congrArg (SV.int .i64) et⟩, ?_⟩)))
          | false =>
            rw [Bool.false_or] at hnx
            (refine gs ?_)
            refine gw ?_
            refine n_ldDI (.int .i64 d.se) rfl rfl (fun _ w1 _ hI1 => load_cell aggInt (ef_cell (hE1 _ hI1.frm) hy 1 rfl (by simp [add_add]))) ?_
            (refine gs ?_)
            by_cases h0 : 0 ≤ d.se
            · (repeat ((first | refine n_must rfl ?_ | refine n_chk (drawF_ok (by decide +kernel)) ?_ | refine n_same rfl ?_ | ((first | refine n_must ?_ ?_ | refine n_brT ?_ ?_); (focus (first | (simp [h0]; done) | (simp [h0]; omega) | (simp only [h0]; simp; done)))) | (refine n_brF ?_ ?_; (focus (first | (simp [h0]; done) | (simp [h0]; omega) | (simp only [h0]; simp; done)))) | refine n_must (by (with_reducible refine and_shape ?_) <;> kernel_rfl) ?_); (refine gs ?_)))
              repeat ((first | (refine n_ldDI (.agg [.int .i64 d.se, .int .i64 d.id]) rfl rfl (fun _ w1 _ hI1 => ef_call (hE1 _ hI1.frm) hy (addT ae t 9 1)) ?_; (refine gs ?_)) | (refine n_ldDI (.agg [.int .i64 p.se, .int .i64 p.id]) rfl rfl (fun _ w1 _ hI1 => pa_call (hI1.res 0 rfl rfl) hx (addT ad i 10 0)) ?_; (refine gs ?_)) | (refine n_ldRI (.int .i64 d.se) rfl (fun _ w1 _ hI1 => load_cell aggInt (ef_cell (hE1 _ hI1.frm) hy 1 rfl (addT ae t 9 1))) ?_; (refine gs ?_))); (repeat ((first | refine n_must rfl ?_ | refine n_chk (drawF_ok (by decide +kernel)) ?_ | refine n_same rfl ?_ | ((first | refine n_must ?_ ?_ | refine n_brT ?_ ?_); (focus (first | (simp [h0]; done) | (simp [h0]; omega) | (simp only [h0]; simp; done)))) | (refine n_brF ?_ ?_; (focus (first | (simp [h0]; done) | (simp [h0]; omega) | (simp only [h0]; simp; done)))) | refine n_must (by (with_reducible refine and_shape ?_) <;> kernel_rfl) ?_); (refine gs ?_))))
              have hcq : (d.se == p.se && (d.id == p.id && true)) = decide (0 ≤ d.se ∧ d.call = p.call) := by rw [call_eqB, Bool.eq_iff_iff]; simp [h0]
              refine n_again ⟨(t + 1, false), by dsimp only; omega, by dsimp only; omega, ?_, ⟨_, rfl⟩⟩
              dsimp only
              rw [hnx]; exact (by (repeat (first | exact trivial | refine ⟨⟨rfl, rfl⟩, ?_⟩ | refine ⟨⟨rfl, congrArg (SV.int .i64) et⟩, ?_⟩ | refine ⟨⟨rfl, congrArg SV.bool hcq⟩, ?_⟩)))
            · (repeat ((first | refine n_must rfl ?_ | refine n_chk (drawF_ok (by decide +kernel)) ?_ | refine n_same rfl ?_ | ((first | refine n_must ?_ ?_ | refine n_brT ?_ ?_); (focus (first | (simp [h0]; done) | (simp [h0]; omega) | (simp only [h0]; simp; done)))) | (refine n_brF ?_ ?_; (focus (first | (simp [h0]; done) | (simp [h0]; omega) | (simp only [h0]; simp; done)))) | refine n_must (by (with_reducible refine and_shape ?_) <;> kernel_rfl) ?_); (refine gs ?_)))
              rw [decide_eq_false fun h => h0 h.1] at hnx
              refine n_again ⟨(t + 1, true), by dsimp only; omega, by dsimp only; omega, ?_, ⟨_, rfl⟩⟩
              dsimp only
              rw [hnx]; exact (by (repeat (first | exact trivial | refine ⟨⟨rfl, rfl⟩, ?_⟩ | refine ⟨⟨rfl, congrArg (SV.int .i64) et⟩, ?_⟩)))
        | false =>
          cases T with
          | true =>
            (refine gs ?_)
            refine gw ?_
            rw [Bool.true_or] at hnx
            refine n_again ⟨(t + 1, true), by dsimp only; omega, by dsimp only; omega, ?_, ⟨_, rfl⟩⟩
            dsimp only
            rw [hnx]; exact (by (repeat (first | exact trivial | refine ⟨⟨rfl, rfl⟩, ?_⟩ | refine ⟨⟨rfl, congrArg (SV.int .i64) et⟩, ?_⟩)))
          | false =>
            rw [Bool.false_or] at hnx
            (refine gs ?_)
            refine gw ?_
            refine n_ldDI (.int .i64 d.se) rfl rfl (fun _ w1 _ hI1 => load_cell aggInt (ef_cell (hE1 _ hI1.frm) hy 1 rfl (by simp [add_add]))) ?_
            (refine gs ?_)
            by_cases h0 : 0 ≤ d.se
            · (repeat ((first | refine n_must rfl ?_ | refine n_chk (drawF_ok (by decide +kernel)) ?_ | refine n_same rfl ?_ | ((first | refine n_must ?_ ?_ | refine n_brT ?_ ?_); (focus (first | (simp [h0]; done) | (simp [h0]; omega) | (simp only [h0]; simp; done)))) | (refine n_brF ?_ ?_; (focus (first | (simp [h0]; done) | (simp [h0]; omega) | (simp only [h0]; simp; done)))) | refine n_must (by (with_reducible refine and_shape ?_) <;> kernel_rfl) ?_); (refine gs ?_)))
              repeat ((first | (refine n_ldDI (.agg [.int .i64 d.se, .int .i64 d.id]) rfl rfl (fun _ w1 _ hI1 => ef_call (hE1 _ hI1.frm) hy (addT ae t 9 1)) ?_; (refine gs ?_)) | (refine n_ldDI (.agg [.int .i64 p.se, .int .i64 p.id]) rfl rfl (fun _ w1 _ hI1 => pa_call (hI1.res 0 rfl rfl) hx (addT ad i 10 0)) ?_; (refine gs ?_)) | (refine n_ldRI (.int .i64 d.se) rfl (fun _ w1 _ hI1 => load_cell aggInt (ef_cell (hE1 _ hI1.frm) hy 1 rfl (addT ae t 9 1))) ?_; (refine gs ?_))); (repeat ((first | refine n_must rfl ?_ | refine n_chk (drawF_ok (by decide +kernel)) ?_ | refine n_same rfl ?_ | ((first | refine n_must ?_ ?_ | refine n_brT ?_ ?_); (focus (first | (simp [h0]; done) | (simp [h0]; omega) | (simp only [h0]; simp; done)))) | (refine n_brF ?_ ?_; (focus (first | (simp [h0]; done) | (simp [h0]; omega) | (simp only [h0]; simp; done)))) | refine n_must (by (with_reducible refine and_shape ?_) <;> kernel_rfl) ?_); (refine gs ?_))))
              have hcq : (d.se == p.se && (d.id == p.id && true)) = decide (0 ≤ d.se ∧ d.call = p.call) := by rw [call_eqB, Bool.eq_iff_iff]; simp [h0]
              refine n_again ⟨(t + 1, false), by dsimp only; omega, by dsimp only; omega, ?_, ⟨_, rfl⟩⟩
              dsimp only
              rw [hnx]; exact (by (repeat (first | exact trivial | refine ⟨⟨rfl, rfl⟩, ?_⟩ | refine ⟨⟨rfl, congrArg (SV.int .i64) et⟩, ?_⟩ | refine ⟨⟨rfl, congrArg SV.bool hcq⟩, ?_⟩)))
            · (repeat ((first | refine n_must rfl ?_ | refine n_chk (drawF_ok (by decide +kernel)) ?_ | refine n_same rfl ?_ | ((first | refine n_must ?_ ?_ | refine n_brT ?_ ?_); (focus (first | (simp [h0]; done) | (simp [h0]; omega) | (simp only [h0]; simp; done)))) | (refine n_brF ?_ ?_; (focus (first | (simp [h0]; done) | (simp [h0]; omega) | (simp only [h0]; simp; done)))) | refine n_must (by (with_reducible refine and_shape ?_) <;> kernel_rfl) ?_); (refine gs ?_)))
              rw [decide_eq_false fun h => h0 h.1] at hnx
              refine n_again ⟨(t + 1, true), by dsimp only; omega, by dsimp only; omega, ?_, ⟨_, rfl⟩⟩
              dsimp only
              rw [hnx]; exact (by (repeat (first | exact trivial | refine ⟨⟨rfl, rfl⟩, ?_⟩ | refine ⟨⟨rfl, congrArg (SV.int .i64) et⟩, ?_⟩)))
      · obtain rfl : t = E.length := by omega
        rw [List.take_length]
        generalize thereF E p.call = T at hm
        have ec : IntKind.i64.wrap ((E.length : Int) + (i : Int)) = (E.length : Int) + i := w64 (by omega) (by omega)
        cases kd with
        | true =>
            cases T with
            | true =>
              rw [Bool.not_true, Bool.and_false, Bool.not_false] at hm
              (refine gs ?_)
              refine gw ?_
              refine n_exit rfl ?_
              (refine gs ?_)
              refine gw ?_
              refine n_ldI (.agg p.sv) rfl rfl (fun _ w1 _ hI1 => pa_row (hI1.res 0 rfl rfl) hx rfl) ?_
              (refine gs ?_)
              refine gw ?_
              refine n_sameP (.int .i64 (sortF p)) rfl rfl rfl (fun _ w1 hp1 hI1 => rSort_ok p w1) ?_; (refine gs ?_)
              by_cases h2 : sortF p = 2
              · (repeat ((first | refine n_must rfl ?_ | refine n_chk (drawF_ok (by decide +kernel)) ?_ | refine n_same rfl ?_ | ((first | refine n_must ?_ ?_ | refine n_brT ?_ ?_); (focus (first | (simp [h2]; done) | (simp [h2]; omega) | (simp only [h2]; simp; done)))) | (refine n_brF ?_ ?_; (focus (first | (simp [h2]; done) | (simp [h2]; omega) | (simp only [h2]; simp; done)))) | refine n_must (by (with_reducible refine and_shape ?_) <;> kernel_rfl) ?_); (refine gs ?_)))
                refine n_again ⟨i + 1, ⟨by omega, fun j hj => ?_⟩, by omega, (by (repeat (first | exact trivial | refine ⟨⟨rfl, rfl⟩, ?_⟩ | refine ⟨⟨rfl, congrArg (SV.int .i64) ei⟩, ?_⟩))), ⟨_, rfl⟩⟩
                by_cases e' : j = i
                · subst e'; exact hm
                · exact hJ2 j (by omega)
              · (repeat ((first | refine n_must rfl ?_ | refine n_chk (drawF_ok (by decide +kernel)) ?_ | refine n_same rfl ?_ | ((first | refine n_must ?_ ?_ | refine n_brT ?_ ?_); (focus (first | (simp [h2]; done) | (simp [h2]; omega) | (simp only [h2]; simp; done)))) | (refine n_brF ?_ ?_; (focus (first | (simp [h2]; done) | (simp [h2]; omega) | (simp only [h2]; simp; done)))) | refine n_must (by (with_reducible refine and_shape ?_) <;> kernel_rfl) ?_); (refine gs ?_)))
                refine n_again ⟨i + 1, ⟨by omega, fun j hj => ?_⟩, by omega, (by (repeat (first | exact trivial | refine ⟨⟨rfl, rfl⟩, ?_⟩ | refine ⟨⟨rfl, congrArg (SV.int .i64) ei⟩, ?_⟩))), ⟨_, rfl⟩⟩
                by_cases e' : j = i
                · subst e'; exact hm
                · exact hJ2 j (by omega)
            | false =>
              rw [Bool.not_false, Bool.and_true] at hm
              (refine gs ?_)
              refine gw ?_
              refine n_exit rfl ?_
              (refine gs ?_)
              refine gw ?_
              refine n_ldI (.agg p.sv) rfl rfl (fun _ w1 _ hI1 => pa_row (hI1.res 0 rfl rfl) hx rfl) ?_
              (refine gs ?_)
              refine gw ?_
              refine n_sameP (.int .i64 (sortF p)) rfl rfl rfl (fun _ w1 hp1 hI1 => rSort_ok p w1) ?_; (refine gs ?_)
              by_cases h2 : sortF p = 2
              · rw [decide_eq_true h2, Bool.not_true] at hm
                rw [firstBadN_some hlt3 hJ2 hm] at hV
                dsimp only at hV
                (repeat ((first | refine n_must rfl ?_ | refine n_chk (drawF_ok (by decide +kernel)) ?_ | refine n_same rfl ?_ | ((first | refine n_must ?_ ?_ | refine n_brT ?_ ?_); (focus (first | (simp [h2]; done) | (simp [h2]; omega) | (simp only [h2]; simp; done)))) | (refine n_brF ?_ ?_; (focus (first | (simp [h2]; done) | (simp [h2]; omega) | (simp only [h2]; simp; done)))) | refine n_must (by (with_reducible refine and_shape ?_) <;> kernel_rfl) ?_); (refine gs ?_)))
                refine n_leave ?_
                rw [hV, ec]
                exact n_ret0 rfl rfl fun ids' w' hp hI' => ⟨rfl, hI'.frm⟩
              · rw [decide_eq_false h2, Bool.not_false] at hm
                (repeat ((first | refine n_must rfl ?_ | refine n_chk (drawF_ok (by decide +kernel)) ?_ | refine n_same rfl ?_ | ((first | refine n_must ?_ ?_ | refine n_brT ?_ ?_); (focus (first | (simp [h2]; done) | (simp [h2]; omega) | (simp only [h2]; simp; done)))) | (refine n_brF ?_ ?_; (focus (first | (simp [h2]; done) | (simp [h2]; omega) | (simp only [h2]; simp; done)))) | refine n_must (by (with_reducible refine and_shape ?_) <;> kernel_rfl) ?_); (refine gs ?_)))
                refine n_again ⟨i + 1, ⟨by omega, fun j hj => ?_⟩, by omega, (by (repeat (first | exact trivial | refine ⟨⟨rfl, rfl⟩, ?_⟩ | refine ⟨⟨rfl, congrArg (SV.int .i64) ei⟩, ?_⟩))), ⟨_, rfl⟩⟩
                by_cases e' : j = i
                · subst e'; exact hm
                · exact hJ2 j (by omega)
        | false =>
            cases T with
            | true =>
              rw [Bool.not_true, Bool.and_false, Bool.not_false] at hm
              (refine gs ?_)
              refine gw ?_
              refine n_exit rfl ?_
              (refine gs ?_)
              refine gw ?_
              refine n_ldI (.agg p.sv) rfl rfl (fun _ w1 _ hI1 => pa_row (hI1.res 0 rfl rfl) hx rfl) ?_
              (refine gs ?_)
              refine gw ?_
              refine n_sameP (.int .i64 (sortF p)) rfl rfl rfl (fun _ w1 hp1 hI1 => rSort_ok p w1) ?_; (refine gs ?_)
              by_cases h2 : sortF p = 2
              · (repeat ((first | refine n_must rfl ?_ | refine n_chk (drawF_ok (by decide +kernel)) ?_ | refine n_same rfl ?_ | ((first | refine n_must ?_ ?_ | refine n_brT ?_ ?_); (focus (first | (simp [h2]; done) | (simp [h2]; omega) | (simp only [h2]; simp; done)))) | (refine n_brF ?_ ?_; (focus (first | (simp [h2]; done) | (simp [h2]; omega) | (simp only [h2]; simp; done)))) | refine n_must (by (with_reducible refine and_shape ?_) <;> kernel_rfl) ?_); (refine gs ?_)))
                refine n_again ⟨i + 1, ⟨by omega, fun j hj => ?_⟩, by omega, (by (repeat (first | exact trivial | refine ⟨⟨rfl, rfl⟩, ?_⟩ | refine ⟨⟨rfl, congrArg (SV.int .i64) ei⟩, ?_⟩))), ⟨_, rfl⟩⟩
                by_cases e' : j = i
                · subst e'; exact hm
                · exact hJ2 j (by omega)
              · (repeat ((first | refine n_must rfl ?_ | refine n_chk (drawF_ok (by decide +kernel)) ?_ | refine n_same rfl ?_ | ((first | refine n_must ?_ ?_ | refine n_brT ?_ ?_); (focus (first | (simp [h2]; done) | (simp [h2]; omega) | (simp only [h2]; simp; done)))) | (refine n_brF ?_ ?_; (focus (first | (simp [h2]; done) | (simp [h2]; omega) | (simp only [h2]; simp; done)))) | refine n_must (by (with_reducible refine and_shape ?_) <;> kernel_rfl) ?_); (refine gs ?_)))
                refine n_again ⟨i + 1, ⟨by omega, fun j hj => ?_⟩, by omega, (by (repeat (first | exact trivial | refine ⟨⟨rfl, rfl⟩, ?_⟩ | refine ⟨⟨rfl, congrArg (SV.int .i64) ei⟩, ?_⟩))), ⟨_, rfl⟩⟩
                by_cases e' : j = i
                · subst e'; exact hm
                · exact hJ2 j (by omega)
            | false =>
              rw [Bool.not_false, Bool.and_true] at hm
              (refine gs ?_)
              refine gw ?_
              refine n_exit rfl ?_
              (refine gs ?_)
              refine gw ?_
              refine n_ldI (.agg p.sv) rfl rfl (fun _ w1 _ hI1 => pa_row (hI1.res 0 rfl rfl) hx rfl) ?_
              (refine gs ?_)
              refine gw ?_
              refine n_sameP (.int .i64 (sortF p)) rfl rfl rfl (fun _ w1 hp1 hI1 => rSort_ok p w1) ?_; (refine gs ?_)
              by_cases h2 : sortF p = 2
              · rw [decide_eq_true h2, Bool.not_true] at hm
                rw [firstBadN_some hlt3 hJ2 hm] at hV
                dsimp only at hV
                (repeat ((first | refine n_must rfl ?_ | refine n_chk (drawF_ok (by decide +kernel)) ?_ | refine n_same rfl ?_ | ((first | refine n_must ?_ ?_ | refine n_brT ?_ ?_); (focus (first | (simp [h2]; done) | (simp [h2]; omega) | (simp only [h2]; simp; done)))) | (refine n_brF ?_ ?_; (focus (first | (simp [h2]; done) | (simp [h2]; omega) | (simp only [h2]; simp; done)))) | refine n_must (by (with_reducible refine and_shape ?_) <;> kernel_rfl) ?_); (refine gs ?_)))
                refine n_leave ?_
                rw [hV, ec]
                exact n_ret0 rfl rfl fun ids' w' hp hI' => ⟨rfl, hI'.frm⟩
              · rw [decide_eq_false h2, Bool.not_false] at hm
                (repeat ((first | refine n_must rfl ?_ | refine n_chk (drawF_ok (by decide +kernel)) ?_ | refine n_same rfl ?_ | ((first | refine n_must ?_ ?_ | refine n_brT ?_ ?_); (focus (first | (simp [h2]; done) | (simp [h2]; omega) | (simp only [h2]; simp; done)))) | (refine n_brF ?_ ?_; (focus (first | (simp [h2]; done) | (simp [h2]; omega) | (simp only [h2]; simp; done)))) | refine n_must (by (with_reducible refine and_shape ?_) <;> kernel_rfl) ?_); (refine gs ?_)))
                refine n_again ⟨i + 1, ⟨by omega, fun j hj => ?_⟩, by omega, (by (repeat (first | exact trivial | refine ⟨⟨rfl, rfl⟩, ?_⟩ | refine ⟨⟨rfl, congrArg (SV.int .i64) ei⟩, ?_⟩))), ⟨_, rfl⟩⟩
                by_cases e' : j = i
                · subst e'; exact hm
                · exact hJ2 j (by omega)
    · obtain rfl : i = L.length := by omega
      rw [firstBadN_none hJ2] at hV
      dsimp only at hV
      refine gw ?_
      refine n_exit rfl ?_
      (refine gs ?_)
      refine gw ?_
      rw [hV]
      exact n_ret0 rfl rfl fun ids' w' hp hI' => ⟨rfl, hI'.frm⟩
end Go.Proofs.Ytfcbcgjgkleonaa
