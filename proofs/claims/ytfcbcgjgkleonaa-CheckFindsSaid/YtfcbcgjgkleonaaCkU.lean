/- Package check: number. -/
import Derived.Test.YtfcbcgjgkleonaaBnP
import Derived.Test.YtfcbcgjgkleonaaGaR
set_option maxRecDepth 100000
set_option linter.unusedSimpArgs false
set_option linter.unusedVariables false
set_option maxHeartbeats 8000000
namespace Go.Proofs.Ytfcbcgjgkleonaa
open Go.RowKit

def namesB (p : Pa) (n : Int) : Bool := (decide (p.k = 5 ∨ p.k = 6) && decide (p.a = n)) || (decide (p.k = 4) && decide (p.va = n))
def namedB9 (L : List Pa) (n : Int) : Bool := L.any fun p => namesB p n
def geB (p : Pa) (n : Int) : Bool := (decide (p.k = 5 ∨ p.k = 6) && decide (n ≤ p.a)) || (decide (p.k = 4) && decide (n ≤ p.va))
def cntGe (L : List Pa) (n : Int) : Nat := L.countP fun p => geB p n
theorem cntGe_le (L : List Pa) (n : Int) : cntGe L n ≤ L.length := List.countP_le_length
theorem cntGe_lt {L : List Pa} {n : Int} (h : namedB9 L n = true) : cntGe L (n + 1) < cntGe L n := by
  unfold cntGe
  have mono : ∀ p : Pa, geB p (n + 1) = true → geB p n = true := fun p h => by
    simp only [geB, Bool.or_eq_true, Bool.and_eq_true, decide_eq_true_eq] at h ⊢
    omega
  obtain ⟨p, hp, hn⟩ := List.any_eq_true.1 h
  have hstrict : geB p n = true ∧ geB p (n + 1) = false := by
    simp only [namesB, geB, Bool.or_eq_true, Bool.and_eq_true, decide_eq_true_eq, Bool.or_eq_false_iff, Bool.and_eq_false_iff, decide_eq_false_iff_not] at hn ⊢
    omega
  clear h
  induction L with
  | nil => simp at hp
  | cons q L ih =>
    rw [List.countP_cons, List.countP_cons]
    have hle : L.countP (fun p => geB p (n + 1)) ≤ L.countP (fun p => geB p n) := List.countP_mono_left fun p _ h => mono p h
    rcases List.mem_cons.1 hp with rfl | hp
    · rw [hstrict.1, hstrict.2]; simp; omega
    · have := ih hp
      have h2 : (if geB q (n + 1) = true then 1 else 0) ≤ (if geB q n = true then 1 else 0) := by
        by_cases h : geB q (n + 1) = true
        · rw [if_pos h, if_pos (mono q h)]; omega
        · rw [if_neg h]; omega
      omega
def skipF (L : List Pa) : Nat → Int → Int
  | 0, n => n
  | f + 1, n => if namedB9 L n = true then skipF L f (n + 1) else n
def holdStep (L : List Pa) (a : List Int × Int) (p : Pa) : List Int × Int :=
  if sortF p = 2 then (a.1 ++ [p.va], skipF L (L.length + 1) a.2) else (a.1 ++ [skipF L (L.length + 1) a.2], skipF L (L.length + 1) a.2 + 1)
def holdsT (L : List Pa) (i : Nat) : List Int × Int := (L.take i).foldl (holdStep L) ([], 1)
theorem holdsT_next {L : List Pa} {i : Nat} {p : Pa} (h : L[i]? = some p) : holdsT L (i + 1) = holdStep L (holdsT L i) p := by
  unfold holdsT
  rw [take_next h]
  simp
theorem skipF_le (L : List Pa) : ∀ f n, n ≤ skipF L f n ∧ skipF L f n ≤ n + f
  | 0, n => by simp [skipF]
  | f + 1, n => by
    rw [skipF]
    split
    · have := skipF_le L f (n + 1); omega
    · omega
theorem holdsT_ok (L : List Pa) : ∀ i, i ≤ L.length → (holdsT L i).1.length = i ∧ 1 ≤ (holdsT L i).2 ∧ (holdsT L i).2 ≤ 1 + i * (L.length + 2)
  | 0, _ => by simp [holdsT]
  | i + 1, hi => by
    obtain ⟨h1, h2, h3⟩ := holdsT_ok L i (by omega)
    have hx : L[i]? = some L[i] := List.getElem?_eq_getElem _
    rw [holdsT_next hx]
    have hs := skipF_le L (L.length + 1) (holdsT L i).2
    have e : (((i + 1 : Nat) : Int)) * ((L.length : Int) + 2) = (i : Int) * ((L.length : Int) + 2) + ((L.length : Int) + 2) := by push_cast; rw [Int.add_mul]; omega
    unfold holdStep
    split
    · refine ⟨by simp [h1], by dsimp only; omega, ?_⟩
      dsimp only; rw [e]; omega
    · refine ⟨by simp [h1], by dsimp only; omega, ?_⟩
      dsimp only; rw [e]; omega
/-- A map of numbers, as a part. -/
def nbRes (b : Nat) (m : List (Int × Bool)) : Res where
  fp := [b]
  R w := MapOf intE boolV w b m
  stable := fun w w' hk h => h.keep (hk b (by simp))
abbrev nuMem (a : SA) (S : Srch) : Mem := [⟨77, [.raw (.slice a.ho S.n a.hc), .raw (.slice a.so (S.L.map sortF).length a.sc), .raw (.slice a.d S.H.length a.dc), .raw (.slice a.no S.Ns.length a.nc), .raw (.map (some a.vb))], true⟩, ⟨3, [.res (dRes a S.H)], true⟩]
theorem nu_den (a : SA) (S : Srch) : ∀ i b, nth (nuMem a S) i = some b → resOf b = none → ∃ l, denL [] b.cells = some l := by
  intro i b h hr
  match i, h with
  | 0, h => cases h; exact ⟨_, rfl⟩
  | 1, h => cases h; cases hr
theorem number_ok {p : Nat} {a : SA} {S : Srch} {w : World} (hH : S.H = []) (hd0 : a.d = none ∧ a.dc = 0) (hN : S.n ≤ 12) (h64 : ∀ p ∈ S.L, i64 p.a ∧ i64 p.va) (hR : (memRes [p, 0] (nuMem a S)).R w) (hL : (paRes a.ho S.L).R w) (hLlt : ∀ x ∈ (paRes a.ho S.L).fp, x < w.heap.size) (hso : (soRes a (S.L.map sortF)).R w) (hsolt : ∀ x ∈ (soRes a (S.L.map sortF)).fp, x < w.heap.size)
    (ha1 : ∀ x ∈ (memRes [p, 0] (nuMem a S)).fp, x ∉ (paRes a.ho S.L).fp) (ha2 : ∀ x ∈ (memRes [p, 0] (nuMem a S)).fp, x ∉ (soRes a (S.L.map sortF)).fp) (ha3 : ∀ x ∈ (paRes a.ho S.L).fp, x ∉ (soRes a (S.L.map sortF)).fp) :
    Calls Try.prog 31 #[pV p] w fun e w' => ∃ y : Option Addr × Nat, e = .returned (.tuple #[]) ∧ True ∧ Post (memRes [p, 0] (nuMem a S)) (memRes [p, 0] (nuMem { a with d := y.1, dc := y.2 } { S with H := (holdsT S.L S.n).1 })) w w' := by
  obtain ⟨iti, hiti, hpi9⟩ := Option.map_eq_some_iff.1 infoInt
  simp only [Prod.mk.injEq] at hpi9
  obtain ⟨ho, hc, so, sc, dd, dc, no, nc, vb⟩ := a
  obtain ⟨rfl, rfl⟩ := hd0
  obtain ⟨L, H, Ns⟩ := S
  subst hH
  dsimp only at hN h64 hL hLlt hso hsolt ha1 ha2 ha3 hR ⊢
  have hN' : L.length ≤ 12 := hN
  have hI0 : Inv (cx 81 [(18, .of [(0, []), (1, []), (2, []), (3, []), (4, []), (5, []), (6, []), (7, [4]), (8, []), (9, []), (10, []), (11, [])])] (memRes [p, 0] (nuMem ⟨ho, hc, so, sc, none, 0, no, nc, vb⟩ ⟨L, [], Ns⟩)).fp w) w [p, 0] (nuMem ⟨ho, hc, so, sc, none, 0, no, nc, vb⟩ ⟨L, [], Ns⟩) := memRes_open hR fun x hx => hx
  have hI1 := hI0.consR (t := 55) (rw_ := false) (r := paRes ho L) (fun x hx hm => ha1 x hm hx) hL hLlt (by simp)
  have hI := hI1.consR (t := 79) (rw_ := false) (r := rowRes 79 1 so (L.map sortF).length sc (ints (L.map sortF))) (fun x hx hm => by
    have hm' : x ∈ (memRes [p, 0] (nuMem ⟨ho, hc, so, sc, none, 0, no, nc, vb⟩ ⟨L, [], Ns⟩)).fp ∨ x ∈ (paRes ho L).fp := by
      simp only [memRes, fpsOf, fpOf, resOf, List.append_nil] at hm ⊢
      simpa [or_assoc] using hm
    rcases hm' with hm | hm
    · exact ha2 x hm hx
    · exact ha3 x hm hx) hso hsolt (by simp)
  refine calls_sm (cx 81 [(18, .of [(0, []), (1, []), (2, []), (3, []), (4, []), (5, []), (6, []), (7, [4]), (8, []), (9, []), (10, []), (11, [])])] (memRes [p, 0] (nuMem ⟨ho, hc, so, sc, none, 0, no, nc, vb⟩ ⟨L, [], Ns⟩)).fp w) (vals := [.ptr 0 0]) mixed Try.func31 rfl rfl rfl hI rfl (st rfl ?_); conv => arg 3; whnf
  dsimp only
  refine gw ?_
  refine n_makeMap (fun b => nbRes b []) 100 rfl rfl rfl (fun _ => rfl) (fun w b h => MapOf.empty _ _ h) fun nb hnb => ?_
  (refine gs ?_)
  refine gw ?_
  refine n_loop (σ := Nat × List (Int × Bool)) (fun t => [(0, .ptr 0 0), (2, .raw (.map (some nb))), (12, .raw (.slice ho L.length hc)), (13, .int .i64 (L.length : Nat)), (14, .int .i64 (t.1 : Nat))]) (fun t => (nuMem ⟨ho, hc, so, sc, none, 0, no, nc, vb⟩ ⟨L, [], Ns⟩ ++ [⟨55, [.res (paRes ho L)], false⟩, ⟨79, [.res (rowRes 79 1 so (L.map sortF).length sc (ints (L.map sortF)))], false⟩]) ++ [⟨100, [.res (nbRes nb t.2)], true⟩]) (fun t => t.1 ≤ L.length ∧ ∀ n, (mget t.2 n).getD false = namedB9 (L.take t.1) n) (fun t => L.length - t.1) (0, []) mixed ⟨by simp, fun n => rfl⟩ (fun _ _ => rfl) rfl (by (repeat (first | exact trivial | refine ⟨⟨rfl, rfl⟩, ?_⟩))) (fun s _ => ⟨by (repeat (first | exact trivial | refine ⟨⟨_, rfl⟩, ?_⟩)), by (repeat (first | exact trivial | refine ⟨⟨_, rfl⟩, ?_⟩))⟩) fun t ht => ?_
  obtain ⟨i, m⟩ := t
  obtain ⟨hi, hm⟩ := ht
  dsimp only at hi hm ⊢
  (refine gs ?_)
  by_cases hil : i < L.length
  · have ei : IntKind.i64.wrap ((i : Int) + 1) = ((i + 1 : Nat) : Int) := by rw [w64 (by omega) (by omega)]; simp
    obtain ⟨ad, rfl⟩ := rd_some pa_len (by omega) hL (by omega)
    have hx : L[i]? = some L[i] := List.getElem?_eq_getElem _
    have hp64 := h64 L[i] (List.getElem_mem hil)
    generalize L[i] = q at hx hp64
    have hnx : ∀ n, namedB9 (L.take (i + 1)) n = (namedB9 (L.take i) n || namesB q n) := fun n => by unfold namedB9; rw [take_next hx]; simp
    refine gw ?_
    refine n_ldI (.agg q.sv) rfl rfl (fun _ w1 _ hI1 => pa_row (hI1.res 2 rfl rfl) hx rfl) ?_
    (refine gs ?_)
    by_cases k5 : q.k = 5
    · (repeat ((first | refine n_must rfl ?_ | refine n_chk (drawF_ok (by decide +kernel)) ?_ | refine n_same rfl ?_ | ((first | refine n_must ?_ ?_ | refine n_brT ?_ ?_); (focus (first | (simp [k5]; done) | (simp [k5]; omega) | (simp only [k5]; simp; done)))) | (refine n_brF ?_ ?_; (focus (first | (simp [k5]; done) | (simp [k5]; omega) | (simp only [k5]; simp; done)))) | refine n_must (by (with_reducible refine and_shape ?_) <;> kernel_rfl) ?_); (refine gs ?_)))
      refine n_mapUpdate (E := intE) (ev' := boolV) (i := 4) (b := nb) (kr := .int .i64 q.a) (vr := .lit true) (ρ := nbRes nb m) (nbRes nb (mput m q.a true)) m q.a true intK rfl rfl rfl rfl rfl rfl (wf_of_i64 hp64.1) rfl rfl rfl rfl rfl (by simp [nbRes]) rfl (fun _ _ _ _ h => by exact h) (fun _ _ _ _ _ _ _ h => by exact h) ?_
      (refine gs ?_)
      (repeat ((first | refine n_must rfl ?_ | refine n_chk (drawF_ok (by decide +kernel)) ?_ | refine n_same rfl ?_ | ((first | refine n_must ?_ ?_ | refine n_brT ?_ ?_); (focus (first | (simp [k5]; done) | (simp [k5]; omega) | (simp only [k5]; simp; done)))) | (refine n_brF ?_ ?_; (focus (first | (simp [k5]; done) | (simp [k5]; omega) | (simp only [k5]; simp; done)))) | refine n_must (by (with_reducible refine and_shape ?_) <;> kernel_rfl) ?_); (refine gs ?_)))
      refine n_again ⟨(i + 1, mput m q.a true), ⟨by dsimp only; omega, fun n => ?_⟩, by dsimp only; omega, (by (repeat (first | exact trivial | refine ⟨⟨rfl, rfl⟩, ?_⟩ | refine ⟨⟨rfl, congrArg (SV.int .i64) ei⟩, ?_⟩))), ⟨_, rfl⟩⟩
      dsimp only
      rw [hnx, mget_put, show namesB q n = decide (q.a = n) by simp [namesB, k5]]
      by_cases e : q.a = n
      · rw [if_pos e, decide_eq_true e]; simp
      · rw [if_neg e, decide_eq_false e, Bool.or_false]; exact hm n
    by_cases k6 : q.k = 6
    · (repeat ((first | refine n_must rfl ?_ | refine n_chk (drawF_ok (by decide +kernel)) ?_ | refine n_same rfl ?_ | ((first | refine n_must ?_ ?_ | refine n_brT ?_ ?_); (focus (first | (simp [k6]; done) | (simp [k6]; omega) | (simp only [k6]; simp; done)))) | (refine n_brF ?_ ?_; (focus (first | (simp [k6]; done) | (simp [k6]; omega) | (simp only [k6]; simp; done)))) | refine n_must (by (with_reducible refine and_shape ?_) <;> kernel_rfl) ?_); (refine gs ?_)))
      refine n_mapUpdate (E := intE) (ev' := boolV) (i := 4) (b := nb) (kr := .int .i64 q.a) (vr := .lit true) (ρ := nbRes nb m) (nbRes nb (mput m q.a true)) m q.a true intK rfl rfl rfl rfl rfl rfl (wf_of_i64 hp64.1) rfl rfl rfl rfl rfl (by simp [nbRes]) rfl (fun _ _ _ _ h => by exact h) (fun _ _ _ _ _ _ _ h => by exact h) ?_
      (refine gs ?_)
      (repeat ((first | refine n_must rfl ?_ | refine n_chk (drawF_ok (by decide +kernel)) ?_ | refine n_same rfl ?_ | ((first | refine n_must ?_ ?_ | refine n_brT ?_ ?_); (focus (first | (simp [k6]; done) | (simp [k6]; omega) | (simp only [k6]; simp; done)))) | (refine n_brF ?_ ?_; (focus (first | (simp [k6]; done) | (simp [k6]; omega) | (simp only [k6]; simp; done)))) | refine n_must (by (with_reducible refine and_shape ?_) <;> kernel_rfl) ?_); (refine gs ?_)))
      refine n_again ⟨(i + 1, mput m q.a true), ⟨by dsimp only; omega, fun n => ?_⟩, by dsimp only; omega, (by (repeat (first | exact trivial | refine ⟨⟨rfl, rfl⟩, ?_⟩ | refine ⟨⟨rfl, congrArg (SV.int .i64) ei⟩, ?_⟩))), ⟨_, rfl⟩⟩
      dsimp only
      rw [hnx, mget_put, show namesB q n = decide (q.a = n) by simp [namesB, k6]]
      by_cases e : q.a = n
      · rw [if_pos e, decide_eq_true e]; simp
      · rw [if_neg e, decide_eq_false e, Bool.or_false]; exact hm n
    by_cases k4 : q.k = 4
    · (repeat ((first | refine n_must rfl ?_ | refine n_chk (drawF_ok (by decide +kernel)) ?_ | refine n_same rfl ?_ | ((first | refine n_must ?_ ?_ | refine n_brT ?_ ?_); (focus (first | (simp [k4]; done) | (simp [k4]; omega) | (simp only [k4]; simp; done)))) | (refine n_brF ?_ ?_; (focus (first | (simp [k4]; done) | (simp [k4]; omega) | (simp only [k4]; simp; done)))) | refine n_must (by (with_reducible refine and_shape ?_) <;> kernel_rfl) ?_); (refine gs ?_)))
      refine n_mapUpdate (E := intE) (ev' := boolV) (i := 4) (b := nb) (kr := .int .i64 q.va) (vr := .lit true) (ρ := nbRes nb m) (nbRes nb (mput m q.va true)) m q.va true intK rfl rfl rfl rfl rfl rfl (wf_of_i64 hp64.2) rfl rfl rfl rfl rfl (by simp [nbRes]) rfl (fun _ _ _ _ h => by exact h) (fun _ _ _ _ _ _ _ h => by exact h) ?_
      (refine gs ?_)
      (repeat ((first | refine n_must rfl ?_ | refine n_chk (drawF_ok (by decide +kernel)) ?_ | refine n_same rfl ?_ | ((first | refine n_must ?_ ?_ | refine n_brT ?_ ?_); (focus (first | (simp [k4]; done) | (simp [k4]; omega) | (simp only [k4]; simp; done)))) | (refine n_brF ?_ ?_; (focus (first | (simp [k4]; done) | (simp [k4]; omega) | (simp only [k4]; simp; done)))) | refine n_must (by (with_reducible refine and_shape ?_) <;> kernel_rfl) ?_); (refine gs ?_)))
      refine n_again ⟨(i + 1, mput m q.va true), ⟨by dsimp only; omega, fun n => ?_⟩, by dsimp only; omega, (by (repeat (first | exact trivial | refine ⟨⟨rfl, rfl⟩, ?_⟩ | refine ⟨⟨rfl, congrArg (SV.int .i64) ei⟩, ?_⟩))), ⟨_, rfl⟩⟩
      dsimp only
      rw [hnx, mget_put, show namesB q n = decide (q.va = n) by simp [namesB, k4]]
      by_cases e : q.va = n
      · rw [if_pos e, decide_eq_true e]; simp
      · rw [if_neg e, decide_eq_false e, Bool.or_false]; exact hm n
    (repeat ((first | refine n_must rfl ?_ | refine n_chk (drawF_ok (by decide +kernel)) ?_ | refine n_same rfl ?_ | ((first | refine n_must ?_ ?_ | refine n_brT ?_ ?_); (focus (first | (simp [k5, k6, k4]; done) | (simp [k5, k6, k4]; omega) | (simp only [k5, k6, k4]; simp; done)))) | (refine n_brF ?_ ?_; (focus (first | (simp [k5, k6, k4]; done) | (simp [k5, k6, k4]; omega) | (simp only [k5, k6, k4]; simp; done)))) | refine n_must (by (with_reducible refine and_shape ?_) <;> kernel_rfl) ?_); (refine gs ?_)))
    refine n_again ⟨(i + 1, m), ⟨by dsimp only; omega, fun n => ?_⟩, by dsimp only; omega, (by (repeat (first | exact trivial | refine ⟨⟨rfl, rfl⟩, ?_⟩ | refine ⟨⟨rfl, congrArg (SV.int .i64) ei⟩, ?_⟩))), ⟨_, rfl⟩⟩
    dsimp only
    rw [hnx, show namesB q n = false by simp [namesB, k5, k6, k4], Bool.or_false]
    exact hm n
  obtain rfl : i = L.length := by omega
  rw [List.take_length] at hm
  refine gw ?_
  refine n_exit rfl ?_
  (refine gs ?_)
  refine gw ?_
  refine n_loop (σ := Nat × Option Addr × Nat) (fun t => [(0, .ptr 0 0), (2, .raw (.map (some nb))), (5, .int .i64 (holdsT L t.1).2), (37, .raw (.slice ho L.length hc)), (38, .int .i64 (L.length : Nat)), (39, .int .i64 (t.1 : Nat))]) (fun t => (nuMem ⟨ho, hc, so, sc, t.2.1, t.2.2, no, nc, vb⟩ ⟨L, (holdsT L t.1).1, Ns⟩ ++ [⟨55, [.res (paRes ho L)], false⟩, ⟨79, [.res (rowRes 79 1 so (L.map sortF).length sc (ints (L.map sortF)))], false⟩]) ++ [⟨100, [.res (nbRes nb m)], true⟩]) (fun t => t.1 ≤ L.length) (fun t => L.length - t.1) (0, none, 0) mixed (by simp) (fun _ _ => rfl) rfl (by (repeat (first | exact trivial | refine ⟨⟨rfl, rfl⟩, ?_⟩))) (fun s _ => ⟨by (repeat (first | exact trivial | refine ⟨⟨_, rfl⟩, ?_⟩)), by (repeat (first | exact trivial | refine ⟨⟨_, rfl⟩, ?_⟩))⟩) fun t hi2 => ?_
  obtain ⟨i, o, cc⟩ := t
  dsimp only at hi2 ⊢
  (refine gs ?_)
  by_cases hil : i < L.length
  · have ei : IntKind.i64.wrap ((i : Int) + 1) = ((i + 1 : Nat) : Int) := by rw [w64 (by omega) (by omega)]; simp
    obtain ⟨ad, rfl⟩ := rd_some pa_len (by omega) hL (by omega)
    have hs := rowRes_some' hso (show 0 < (L.map sortF).length by simp; omega)
    obtain ⟨gq, rfl⟩ := hs
    have hx : L[i]? = some L[i] := List.getElem?_eq_getElem _
    have hsq : (ints (L.map sortF))[i]? = some (.int .i64 (sortF L[i])) := by simp [hx]
    generalize L[i] = q at hx hsq
    have hnx := holdsT_next hx
    obtain ⟨t1, t2, t3⟩ := holdsT_ok L i (by omega)
    have hln : (i : Int) * ((L.length : Int) + 2) ≤ 200 := by
      have h1 : (i : Int) * ((L.length : Int) + 2) ≤ 12 * ((L.length : Int) + 2) := Int.mul_le_mul_of_nonneg_right (by omega) (by omega)
      have : (L.length : Int) ≤ 12 := by have : L.length ≤ 12 := hN; omega
      omega
    generalize holdsT L i = T at hnx t1 t2 t3
    obtain ⟨H, n0⟩ := T
    dsimp only at t1 t2 t3
    refine gw ?_
    refine n_ldI (.agg q.sv) rfl rfl (fun _ w1 _ hI1 => pa_row (hI1.res 2 rfl rfl) hx rfl) ?_
    (refine gs ?_)
    refine gw ?_
    have hkn := skipF_le L (L.length + 1) n0
    generalize hNN : skipF L (L.length + 1) n0 = NN at hkn
    have hst9 : holdStep L (H, n0) q = if sortF q = 2 then (H ++ [q.va], NN) else (H ++ [NN], NN + 1) := by unfold holdStep; rw [hNN]
    rw [hst9] at hnx
    refine n_loop1 rfl fun b5 => ?_
    refine n_loop (σ := Int × Nat) (fun t => [(0, .ptr 0 0), (2, .raw (.map (some nb))), (5, .int .i64 t.1), (6, .int .i64 (i : Nat)), (7, .ptr 5 0), (37, .raw (.slice (some ad) L.length hc)), (38, .int .i64 (L.length : Nat)), (39, .int .i64 (i : Nat))]) (fun t => (nuMem ⟨some ad, hc, some ⟨gq, 0, none⟩, sc, o, cc, no, nc, vb⟩ ⟨L, H, Ns⟩ ++ [⟨55, [.res (paRes (some ad) L)], false⟩, ⟨79, [.res (rowRes 79 1 (some ⟨gq, 0, none⟩) (L.map sortF).length sc (ints (L.map sortF)))], false⟩]) ++ [⟨100, [.res (nbRes nb m)], true⟩, ⟨55, q.sv, true⟩]) (fun t => n0 ≤ t.1 ∧ t.1 + t.2 = n0 + (L.length + 1) ∧ cntGe L t.1 < t.2 ∧ skipF L t.2 t.1 = NN) (fun t => t.2) (n0, L.length + 1) mixed ⟨Int.le_refl _, rfl, by have := cntGe_le L n0; dsimp only; omega, hNN⟩ (fun _ _ => rfl) rfl (by (repeat (first | exact trivial | refine ⟨⟨rfl, rfl⟩, ?_⟩))) (fun s _ => ⟨by (repeat (first | exact trivial | refine ⟨⟨_, rfl⟩, ?_⟩)), by (repeat (first | exact trivial | refine ⟨⟨_, rfl⟩, ?_⟩))⟩) fun t ht => ?_
    obtain ⟨n, f⟩ := t
    obtain ⟨f0, f1, f2, f3⟩ := ht
    dsimp only at f0 f1 f2 f3 ⊢
    (refine gs ?_)
    refine gw ?_
    refine n_lookup (E := intE) (ev' := boolV) (b := nb) (kr := .int .i64 n) (zr := .lit false) (z := .bool false) m n (.bool (namedB9 L n)) intK rfl rfl rfl rfl rfl rfl (wf_of_i64 ⟨by omega, by omega⟩) rfl rfl (by rw [← hm]; cases mget m n <;> rfl) (fun _ w1 _ hI1 => by exact hI1.res 4 rfl rfl) ?_
    (refine gs ?_)
    obtain ⟨f', rfl⟩ : ∃ f', f = f' + 1 := ⟨f - 1, by omega⟩
    rw [skipF] at f3
    cases hnm : namedB9 L n with
    | true =>
      rw [hnm, if_pos rfl] at f3
      have hlt9 := cntGe_lt hnm
      have en : IntKind.i64.wrap (n + 1) = n + 1 := w64 (by omega) (by omega)
      refine gw ?_
      exact n_again ⟨(n + 1, f'), ⟨by dsimp only; omega, by dsimp only; omega, by dsimp only; omega, f3⟩, by dsimp only; omega, (by (repeat (first | exact trivial | refine ⟨⟨rfl, rfl⟩, ?_⟩ | refine ⟨⟨rfl, congrArg (SV.int .i64) en⟩, ?_⟩))), ⟨_, rfl⟩⟩
    | false =>
      rw [hnm, if_neg (by simp)] at f3
      subst f3
      refine gw ?_
      refine n_exit rfl ?_
      (refine gs ?_)
      refine gw ?_
      refine n_ldI (.int .i64 (sortF q)) rfl rfl (fun _ w1 _ hI1 => load_cell aggSort (rw_cell (hI1.res 3 rfl rfl) rfl (i := i) hsq rfl)) ?_
      (refine gs ?_)
      by_cases s2 : sortF q = 2
      · rw [if_pos s2] at hnx
        (repeat ((first | refine n_must rfl ?_ | refine n_chk (drawF_ok (by decide +kernel)) ?_ | refine n_same rfl ?_ | ((first | refine n_must ?_ ?_ | refine n_brT ?_ ?_); (focus (first | (simp [s2]; done) | (simp [s2]; omega) | (simp only [s2]; simp; done)))) | (refine n_brF ?_ ?_; (focus (first | (simp [s2]; done) | (simp [s2]; omega) | (simp only [s2]; simp; done)))) | refine n_must (by (with_reducible refine and_shape ?_) <;> kernel_rfl) ?_); (refine gs ?_)))
        refine n_build1 rfl rfl elemInt rfl rfl rfl rfl rfl rfl rfl rfl rfl ?_
        (refine gs ?_)
        refine gw ?_
        refine n_append (n := H.length) (m := 1) (nv := [.int .i64 q.va]) 1 rfl rfl elemInt hiti hpi9.1 hpi9.2.1 hpi9.2.2 rfl (by omega) rfl rfl rfl rfl rfl rfl (by omega) (by simp [Value.oneCell']) (by omega) (by omega) (show ints H ++ [.int .i64 q.va] = ints (H ++ [q.va]) by simp) fun g9 c9 => ?_
        rw [show H.length + 1 = (H ++ [q.va]).length by simp]
        (refine gs ?_)
        refine gw ?_
        refine n_again ⟨(i + 1, some ⟨g9, 0, none⟩, c9), by dsimp only; omega, by dsimp only; omega, ?_, ?_⟩
        · dsimp only; rw [hnx]; exact (by (repeat (first | exact trivial | refine ⟨⟨rfl, rfl⟩, ?_⟩ | refine ⟨⟨rfl, congrArg (SV.int .i64) ei⟩, ?_⟩)))
        · dsimp only; rw [hnx]; exact ⟨_, rfl⟩
      · rw [if_neg s2] at hnx
        have en : IntKind.i64.wrap (n + 1) = n + 1 := w64 (by omega) (by omega)
        (repeat ((first | refine n_must rfl ?_ | refine n_chk (drawF_ok (by decide +kernel)) ?_ | refine n_same rfl ?_ | ((first | refine n_must ?_ ?_ | refine n_brT ?_ ?_); (focus (first | (simp [s2]; done) | (simp [s2]; omega) | (simp only [s2]; simp; done)))) | (refine n_brF ?_ ?_; (focus (first | (simp [s2]; done) | (simp [s2]; omega) | (simp only [s2]; simp; done)))) | refine n_must (by (with_reducible refine and_shape ?_) <;> kernel_rfl) ?_); (refine gs ?_)))
        refine n_build1 rfl rfl elemInt rfl rfl rfl rfl rfl rfl rfl rfl rfl ?_
        (refine gs ?_)
        refine gw ?_
        refine n_append (n := H.length) (m := 1) (nv := [.int .i64 n]) 1 rfl rfl elemInt hiti hpi9.1 hpi9.2.1 hpi9.2.2 rfl (by omega) rfl rfl rfl rfl rfl rfl (by omega) (by simp [Value.oneCell']) (by omega) (by omega) (show ints H ++ [.int .i64 n] = ints (H ++ [n]) by simp) fun g9 c9 => ?_
        rw [show H.length + 1 = (H ++ [n]).length by simp]
        (refine gs ?_)
        refine gw ?_
        refine n_again ⟨(i + 1, some ⟨g9, 0, none⟩, c9), by dsimp only; omega, by dsimp only; omega, ?_, ?_⟩
        · dsimp only; rw [hnx]; exact (by (repeat (first | exact trivial | refine ⟨⟨rfl, rfl⟩, ?_⟩ | refine ⟨⟨rfl, congrArg (SV.int .i64) ei⟩, ?_⟩ | refine ⟨⟨rfl, congrArg (SV.int .i64) en⟩, ?_⟩)))
        · dsimp only; rw [hnx]; exact ⟨_, rfl⟩
  · obtain rfl : i = L.length := by omega
    refine gw ?_
    refine n_exit rfl ?_
    (refine gs ?_)
    refine gw ?_
    exact n_end0 rfl rfl fun ids' w' hp hI' => ⟨(o, cc), rfl, trivial, post_shut hI' rfl [0, 1] (.blk rfl (pre_at hp rfl) rfl rfl (.res rfl .nil)) (by simp)⟩
end Go.Proofs.Ytfcbcgjgkleonaa
