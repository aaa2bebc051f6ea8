/- Chapter 16's law: looks compared. -/
import Derived.Test.YteapjjkgbnnipaaAtG
set_option maxRecDepth 100000
set_option linter.unusedSimpArgs false
set_option linter.unusedVariables false
set_option maxHeartbeats 4000000
namespace Go.Proofs.Yteapjjkgbnnipaa
open Go.RowKit
open Go.Maps (Keyed)

/-- Two lists of the same looks. -/
theorem same_ok {w : World} {oa ob : Option Addr} {ca cb : Nat} {L : List Look} (hL : L.length ≤ 300) (ha : (rowRes 39 4 oa L.length ca (looksC L)).R w) (hb : (rowRes 39 4 ob L.length cb (looksC L)).R w)
    (hla : ∀ x ∈ (rowRes 39 4 oa L.length ca (looksC L)).fp, x < w.heap.size) (hlb : ∀ x ∈ (rowRes 39 4 ob L.length cb (looksC L)).fp, x < w.heap.size) (hap : ∀ x ∈ (rowRes 39 4 oa L.length ca (looksC L)).fp, x ∉ (rowRes 39 4 ob L.length cb (looksC L)).fp) :
    Calls Try.prog 15 #[.slice oa L.length ca, .slice ob L.length cb] w fun e w' => e = .returned (.bool true) ∧ Frm [] w w' := by
  have hI : Inv (cx 26 [] [] w) w [0, 0] [⟨39, [.res (rowRes 39 4 oa L.length ca (looksC L))], false⟩, ⟨39, [.res (rowRes 39 4 ob L.length cb (looksC L))], false⟩] :=
    ((Inv.nil w).consR (by simp) ha hla (by simp)).consR (by intro x hx hm; simp at hm; exact hap x hm hx) hb hlb (by simp)
  generalize hn : L.length = n at *
  refine calls_sm (cx 26 [] [] w) (vals := [.raw (.slice oa n ca), .raw (.slice ob n cb)]) mixed Try.func15 rfl rfl rfl hI rfl (st rfl ?_); conv => arg 3; whnf
  (repeat (first | (refine n_must rfl ?_; (refine st rfl ?_; conv => arg 3; whnf)) | (refine n_chk (drawF_ok (by decide +kernel)) ?_; (refine st rfl ?_; conv => arg 3; whnf)) | (refine n_same rfl ?_; (refine st rfl ?_; conv => arg 3; whnf)) | (refine n_must ?_ ?_; (focus (first | (simp; done) | (simp; omega))); (refine st rfl ?_; conv => arg 3; whnf)) | (refine n_brT ?_ ?_; (focus (first | (simp; done) | (simp; omega))); (refine st rfl ?_; conv => arg 3; whnf)) | (refine n_brF ?_ ?_; (focus (first | (simp; done) | (simp; omega))); (refine st rfl ?_; conv => arg 3; whnf))))
  refine n_loop (σ := Nat) (fun i => [(0, .raw (.slice oa n ca)), (1, .raw (.slice ob n cb)), (5, .int .i64 (i : Nat))]) (fun _ => [⟨39, [.res (rowRes 39 4 oa n ca (looksC L))], false⟩, ⟨39, [.res (rowRes 39 4 ob n cb (looksC L))], false⟩]) (fun i => i ≤ n) (fun i => n - i) 0 mixed (by simp) (fun _ _ => rfl) rfl (by (repeat (first | exact trivial | refine ⟨⟨rfl, rfl⟩, ?_⟩))) (fun s _ => ⟨by (repeat (first | exact trivial | refine ⟨⟨_, rfl⟩, ?_⟩)), by (repeat (first | exact trivial | refine ⟨⟨_, rfl⟩, ?_⟩))⟩) fun i hJ => ?_
  (refine st rfl ?_; conv => arg 3; whnf)
  by_cases hlt : i < n
  · have ei : IntKind.i64.wrap ((i : Int) + 1) = ((i + 1 : Nat) : Int) := by rw [w64 (by omega) (by omega)]; simp
    obtain ⟨g, rfl⟩ := rowRes_some ha (by omega)
    obtain ⟨g', rfl⟩ := rowRes_some hb (by omega)
    have hget : L[i]? = some L[i] := List.getElem?_eq_getElem _
    generalize L[i] = x at hget
    (repeat (first | (refine n_must rfl ?_; (refine st rfl ?_; conv => arg 3; whnf)) | (refine n_chk (drawF_ok (by decide +kernel)) ?_; (refine st rfl ?_; conv => arg 3; whnf)) | (refine n_same rfl ?_; (refine st rfl ?_; conv => arg 3; whnf)) | (refine n_must ?_ ?_; (focus (first | (simp; done) | (simp; omega))); (refine st rfl ?_; conv => arg 3; whnf)) | (refine n_brT ?_ ?_; (focus (first | (simp; done) | (simp; omega))); (refine st rfl ?_; conv => arg 3; whnf)) | (refine n_brF ?_ ?_; (focus (first | (simp; done) | (simp; omega))); (refine st rfl ?_; conv => arg 3; whnf))))
    refine n_ldDI (.agg x.sv) rfl rfl (fun _ w1 _ hI1 => look_ld (hI1.res 0 rfl rfl) hget (by simp)) ?_
    (refine st rfl ?_; conv => arg 3; whnf)
    (repeat (first | (refine n_must rfl ?_; (refine st rfl ?_; conv => arg 3; whnf)) | (refine n_chk (drawF_ok (by decide +kernel)) ?_; (refine st rfl ?_; conv => arg 3; whnf)) | (refine n_same rfl ?_; (refine st rfl ?_; conv => arg 3; whnf)) | (refine n_must ?_ ?_; (focus (first | (simp; done) | (simp; omega))); (refine st rfl ?_; conv => arg 3; whnf)) | (refine n_brT ?_ ?_; (focus (first | (simp; done) | (simp; omega))); (refine st rfl ?_; conv => arg 3; whnf)) | (refine n_brF ?_ ?_; (focus (first | (simp; done) | (simp; omega))); (refine st rfl ?_; conv => arg 3; whnf))))
    refine n_ldDI (.agg x.sv) rfl rfl (fun _ w1 _ hI1 => look_ld (hI1.res 1 rfl rfl) hget (by simp)) ?_
    (refine st rfl ?_; conv => arg 3; whnf)
    (repeat (first | (refine n_must rfl ?_; (refine st rfl ?_; conv => arg 3; whnf)) | (refine n_chk (drawF_ok (by decide +kernel)) ?_; (refine st rfl ?_; conv => arg 3; whnf)) | (refine n_same rfl ?_; (refine st rfl ?_; conv => arg 3; whnf)) | (refine n_must ?_ ?_; (focus (first | (simp; done) | (simp; omega))); (refine st rfl ?_; conv => arg 3; whnf)) | (refine n_brT ?_ ?_; (focus (first | (simp; done) | (simp; omega))); (refine st rfl ?_; conv => arg 3; whnf)) | (refine n_brF ?_ ?_; (focus (first | (simp; done) | (simp; omega))); (refine st rfl ?_; conv => arg 3; whnf))))
    exact n_again ⟨i + 1, by omega, by omega, (by (repeat (first | exact trivial | refine ⟨⟨rfl, rfl⟩, ?_⟩ | refine ⟨⟨rfl, congrArg (SV.int .i64) ei⟩, ?_⟩))), ⟨[], rfl⟩⟩
  · obtain rfl : i = n := by omega
    (repeat (first | (refine n_must rfl ?_; (refine st rfl ?_; conv => arg 3; whnf)) | (refine n_chk (drawF_ok (by decide +kernel)) ?_; (refine st rfl ?_; conv => arg 3; whnf)) | (refine n_same rfl ?_; (refine st rfl ?_; conv => arg 3; whnf)) | (refine n_must ?_ ?_; (focus (first | (simp; done) | (simp; omega))); (refine st rfl ?_; conv => arg 3; whnf)) | (refine n_brT ?_ ?_; (focus (first | (simp; done) | (simp; omega))); (refine st rfl ?_; conv => arg 3; whnf)) | (refine n_brF ?_ ?_; (focus (first | (simp; done) | (simp; omega))); (refine st rfl ?_; conv => arg 3; whnf))))
    refine n_exit rfl ?_
    (refine st rfl ?_; conv => arg 3; whnf)
    (repeat (first | (refine n_must rfl ?_; (refine st rfl ?_; conv => arg 3; whnf)) | (refine n_chk (drawF_ok (by decide +kernel)) ?_; (refine st rfl ?_; conv => arg 3; whnf)) | (refine n_same rfl ?_; (refine st rfl ?_; conv => arg 3; whnf)) | (refine n_brT ?_ ?_; (focus (simp <;> fail)); (refine st rfl ?_; conv => arg 3; whnf)) | (refine n_brF ?_ ?_; (focus (simp <;> fail)); (refine st rfl ?_; conv => arg 3; whnf))))
    exact n_ret0 rfl rfl fun ids' w' hp hI' => ⟨rfl, hI'.frm⟩

/-! ### fits -/
def fitsB (k : Int) (nm : ByteArray) (A B n : Int) (x y : Look) : Bool :=
  if (decide (k ≠ 1) && decide (k ≠ 10) && (decide (x.l ≠ y.l) || !x.is)) || !y.is then false else
  if k = 1 then !x.is && decide (y.v = B) && decide (y.l = A) && decide (y.h = 0) && decide (n = 0)
  else if k = 2 then decide (y.v - x.v = A) && decide (y.h - x.h = 0) && decide (n = 0)
  else if k = 3 then decide (y.v - x.v = -A) && decide (y.h - x.h = 0) && decide (n = 0)
  else if k = 4 then decide (y.v - x.v = -A) && decide (y.h - x.h = A) && decide (1 ≤ n)
  else if k = 5 then decide (y.v - x.v = 0) && decide (y.h - x.h = -n) && decide (1 ≤ n)
  else if k = 6 then decide (y.v - x.v = n) && decide (y.h - x.h = -n) && decide (1 ≤ n)
  else if k = 12 then decide (1 ≤ y.v - x.v) && decide (y.h - x.h = -(y.v - x.v)) && decide (n = 0)
  else if k = 7 then decide (x = y) && decide (n = x.v)
  else if k = 8 then decide (n = x.v) && decide (n = A) && decide (y.v - x.v = -B) && decide (y.h - x.h = 0)
  else if k = 9 then decide (n = A) && decide (y.v = A) && decide (y.h - x.h = 0)
  else if k = 10 then decide (n = A) && decide (y.l = A) && decide (y.v - x.v = 0) && decide (y.h - x.h = 0)
  else false

theorem fits_ok (k : Int) (nm : ByteArray) (A B n : Int) (x y : Look) (h : fitsB k nm A B n x y = true) (hx : 0 ≤ x.v ∧ x.v ≤ 1099511627776 ∧ 0 ≤ x.h ∧ x.h ≤ 1099511627776) (hy : 0 ≤ y.v ∧ y.v ≤ 1099511627776 ∧ 0 ≤ y.h ∧ y.h ≤ 1099511627776) (w : World) :
    Calls Try.prog 16 #[.agg (opV k nm A B), .int .i64 n, .agg x.cells.toArray, .agg y.cells.toArray] w fun e w' => e = .returned (.bool true) ∧ Frm [] w w' := by
  have hI := Inv.nil (P := Try.prog) (N := 237) (S := []) (os := []) w
  have e1 : IntKind.i64.wrap (y.v - x.v) = y.v - x.v := w64 (by omega) (by omega)
  have e2 : IntKind.i64.wrap (y.h - x.h) = y.h - x.h := w64 (by omega) (by omega)
  have e3 : ∀ z : Int, -1099511627776 ≤ z → z ≤ 1099511627776 → IntKind.i64.wrap (0 - z) = -z := fun z h1 h2 => by rw [w64 (by omega) (by omega)]; omega
  have e3' : ∀ z : Int, -1099511627776 ≤ z → z ≤ 1099511627776 → IntKind.i64.wrap (-z) = -z := fun z h1 h2 => by rw [w64 (by omega) (by omega)]
  by_cases h1 : k = 1
  · subst h1
    simp [fitsB] at h
    obtain ⟨hy1, ⟨⟨⟨hx1, hv⟩, hl⟩, hh⟩, hn⟩ := h
    refine calls_sm (cx 237 [] [] w) (vals := [.agg (opS 1 nm A B), .int .i64 n, .agg x.sv, .agg y.sv]) mixed Try.func16 rfl rfl rfl hI rfl (st rfl ?_); conv => arg 3; whnf
    (repeat (first | (refine n_must rfl ?_; (refine st rfl ?_; conv => arg 3; whnf)) | (refine n_chk (drawF_ok (by decide +kernel)) ?_; (refine st rfl ?_; conv => arg 3; whnf)) | (refine n_same rfl ?_; (refine st rfl ?_; conv => arg 3; whnf)) | (refine n_must ?_ ?_; (focus (first | (simp [hy1, hx1, hv, hl, hh, hn]; done) | (simp [hy1, hx1, hv, hl, hh, hn]; omega) | (simp only [hy1, hx1, hv, hl, hh, hn]; simp; done))); (refine st rfl ?_; conv => arg 3; whnf)) | (refine n_brT ?_ ?_; (focus (first | (simp [hy1, hx1, hv, hl, hh, hn]; done) | (simp [hy1, hx1, hv, hl, hh, hn]; omega) | (simp only [hy1, hx1, hv, hl, hh, hn]; simp; done))); (refine st rfl ?_; conv => arg 3; whnf)) | (refine n_brF ?_ ?_; (focus (first | (simp [hy1, hx1, hv, hl, hh, hn]; done) | (simp [hy1, hx1, hv, hl, hh, hn]; omega) | (simp only [hy1, hx1, hv, hl, hh, hn]; simp; done))); (refine st rfl ?_; conv => arg 3; whnf))))
    refine n_ret0 rfl rfl fun ids' w' hp hI' => ⟨ret_bool (by simp [hy1, hx1, hv, hl, hh, hn]), hI'.frm⟩
  by_cases h2 : k = 2
  · subst h2
    simp [fitsB] at h
    obtain ⟨⟨⟨hl, hx1⟩, hy1⟩, ⟨hv, hh⟩, hn⟩ := h
    have hv' : IntKind.i64.wrap (y.v - x.v) = A := by rw [e1, hv]
    have hh' : IntKind.i64.wrap (y.h - x.h) = 0 := by rw [e2, hh]
    refine calls_sm (cx 237 [] [] w) (vals := [.agg (opS 2 nm A B), .int .i64 n, .agg x.sv, .agg y.sv]) mixed Try.func16 rfl rfl rfl hI rfl (st rfl ?_); conv => arg 3; whnf
    (repeat (first | (refine n_must rfl ?_; (refine st rfl ?_; conv => arg 3; whnf)) | (refine n_chk (drawF_ok (by decide +kernel)) ?_; (refine st rfl ?_; conv => arg 3; whnf)) | (refine n_same rfl ?_; (refine st rfl ?_; conv => arg 3; whnf)) | (refine n_must ?_ ?_; (focus (first | (simp [hy1, hx1, hl, hv', hh', hn]; done) | (simp [hy1, hx1, hl, hv', hh', hn]; omega) | (simp only [hy1, hx1, hl, hv', hh', hn]; simp; done))); (refine st rfl ?_; conv => arg 3; whnf)) | (refine n_brT ?_ ?_; (focus (first | (simp [hy1, hx1, hl, hv', hh', hn]; done) | (simp [hy1, hx1, hl, hv', hh', hn]; omega) | (simp only [hy1, hx1, hl, hv', hh', hn]; simp; done))); (refine st rfl ?_; conv => arg 3; whnf)) | (refine n_brF ?_ ?_; (focus (first | (simp [hy1, hx1, hl, hv', hh', hn]; done) | (simp [hy1, hx1, hl, hv', hh', hn]; omega) | (simp only [hy1, hx1, hl, hv', hh', hn]; simp; done))); (refine st rfl ?_; conv => arg 3; whnf))))
    refine n_ret0 rfl rfl fun ids' w' hp hI' => ⟨ret_bool (by simp [hy1, hx1, hl, hv', hh', hn]), hI'.frm⟩
  by_cases h3 : k = 3
  · subst h3
    simp [fitsB] at h
    obtain ⟨⟨⟨hl, hx1⟩, hy1⟩, ⟨hv, hh⟩, hn⟩ := h
    have hv' : IntKind.i64.wrap (y.v - x.v) = -A := by rw [e1, hv]
    have hh' : IntKind.i64.wrap (y.h - x.h) = 0 := by rw [e2, hh]
    have g1 := e3 A (by omega) (by omega)
    have g2 := e3' A (by omega) (by omega)
    refine calls_sm (cx 237 [] [] w) (vals := [.agg (opS 3 nm A B), .int .i64 n, .agg x.sv, .agg y.sv]) mixed Try.func16 rfl rfl rfl hI rfl (st rfl ?_); conv => arg 3; whnf
    (repeat (first | (refine n_must rfl ?_; (refine st rfl ?_; conv => arg 3; whnf)) | (refine n_chk (drawF_ok (by decide +kernel)) ?_; (refine st rfl ?_; conv => arg 3; whnf)) | (refine n_same rfl ?_; (refine st rfl ?_; conv => arg 3; whnf)) | (refine n_must ?_ ?_; (focus (first | (simp [hy1, hx1, hl, hv', hh', hn, g1, g2]; done) | (simp [hy1, hx1, hl, hv', hh', hn, g1, g2]; omega) | (simp only [hy1, hx1, hl, hv', hh', hn, g1, g2]; simp; done))); (refine st rfl ?_; conv => arg 3; whnf)) | (refine n_brT ?_ ?_; (focus (first | (simp [hy1, hx1, hl, hv', hh', hn, g1, g2]; done) | (simp [hy1, hx1, hl, hv', hh', hn, g1, g2]; omega) | (simp only [hy1, hx1, hl, hv', hh', hn, g1, g2]; simp; done))); (refine st rfl ?_; conv => arg 3; whnf)) | (refine n_brF ?_ ?_; (focus (first | (simp [hy1, hx1, hl, hv', hh', hn, g1, g2]; done) | (simp [hy1, hx1, hl, hv', hh', hn, g1, g2]; omega) | (simp only [hy1, hx1, hl, hv', hh', hn, g1, g2]; simp; done))); (refine st rfl ?_; conv => arg 3; whnf))))
    refine n_ret0 rfl rfl fun ids' w' hp hI' => ⟨ret_bool (by simp [hy1, hx1, hl, hv', hh', hn, g1, g2]), hI'.frm⟩
  by_cases h4 : k = 4
  · subst h4
    simp [fitsB] at h
    obtain ⟨⟨⟨hl, hx1⟩, hy1⟩, ⟨hv, hh⟩, hn⟩ := h
    have hv' : IntKind.i64.wrap (y.v - x.v) = -A := by rw [e1, hv]
    have hh' : IntKind.i64.wrap (y.h - x.h) = A := by rw [e2, hh]
    have g1 := e3 A (by omega) (by omega)
    have g2 := e3' A (by omega) (by omega)
    refine calls_sm (cx 237 [] [] w) (vals := [.agg (opS 4 nm A B), .int .i64 n, .agg x.sv, .agg y.sv]) mixed Try.func16 rfl rfl rfl hI rfl (st rfl ?_); conv => arg 3; whnf
    (repeat (first | (refine n_must rfl ?_; (refine st rfl ?_; conv => arg 3; whnf)) | (refine n_chk (drawF_ok (by decide +kernel)) ?_; (refine st rfl ?_; conv => arg 3; whnf)) | (refine n_same rfl ?_; (refine st rfl ?_; conv => arg 3; whnf)) | (refine n_must ?_ ?_; (focus (first | (simp [hy1, hx1, hl, hv', hh', hn, g1, g2]; done) | (simp [hy1, hx1, hl, hv', hh', hn, g1, g2]; omega) | (simp only [hy1, hx1, hl, hv', hh', hn, g1, g2]; simp; done))); (refine st rfl ?_; conv => arg 3; whnf)) | (refine n_brT ?_ ?_; (focus (first | (simp [hy1, hx1, hl, hv', hh', hn, g1, g2]; done) | (simp [hy1, hx1, hl, hv', hh', hn, g1, g2]; omega) | (simp only [hy1, hx1, hl, hv', hh', hn, g1, g2]; simp; done))); (refine st rfl ?_; conv => arg 3; whnf)) | (refine n_brF ?_ ?_; (focus (first | (simp [hy1, hx1, hl, hv', hh', hn, g1, g2]; done) | (simp [hy1, hx1, hl, hv', hh', hn, g1, g2]; omega) | (simp only [hy1, hx1, hl, hv', hh', hn, g1, g2]; simp; done))); (refine st rfl ?_; conv => arg 3; whnf))))
    refine n_ret0 rfl rfl fun ids' w' hp hI' => ⟨ret_bool (by simp [hy1, hx1, hl, hv', hh', hn, g1, g2]), hI'.frm⟩
  by_cases h5 : k = 5
  · subst h5
    simp [fitsB] at h
    obtain ⟨⟨⟨hl, hx1⟩, hy1⟩, ⟨hv, hh⟩, hn⟩ := h
    have hv' : IntKind.i64.wrap (y.v - x.v) = 0 := by rw [e1, hv]
    have hh' : IntKind.i64.wrap (y.h - x.h) = -n := by rw [e2, hh]
    have g1 := e3 n (by omega) (by omega)
    have g2 := e3' n (by omega) (by omega)
    refine calls_sm (cx 237 [] [] w) (vals := [.agg (opS 5 nm A B), .int .i64 n, .agg x.sv, .agg y.sv]) mixed Try.func16 rfl rfl rfl hI rfl (st rfl ?_); conv => arg 3; whnf
    (repeat (first | (refine n_must rfl ?_; (refine st rfl ?_; conv => arg 3; whnf)) | (refine n_chk (drawF_ok (by decide +kernel)) ?_; (refine st rfl ?_; conv => arg 3; whnf)) | (refine n_same rfl ?_; (refine st rfl ?_; conv => arg 3; whnf)) | (refine n_must ?_ ?_; (focus (first | (simp [hy1, hx1, hl, hv', hh', hn, g1, g2]; done) | (simp [hy1, hx1, hl, hv', hh', hn, g1, g2]; omega) | (simp only [hy1, hx1, hl, hv', hh', hn, g1, g2]; simp; done))); (refine st rfl ?_; conv => arg 3; whnf)) | (refine n_brT ?_ ?_; (focus (first | (simp [hy1, hx1, hl, hv', hh', hn, g1, g2]; done) | (simp [hy1, hx1, hl, hv', hh', hn, g1, g2]; omega) | (simp only [hy1, hx1, hl, hv', hh', hn, g1, g2]; simp; done))); (refine st rfl ?_; conv => arg 3; whnf)) | (refine n_brF ?_ ?_; (focus (first | (simp [hy1, hx1, hl, hv', hh', hn, g1, g2]; done) | (simp [hy1, hx1, hl, hv', hh', hn, g1, g2]; omega) | (simp only [hy1, hx1, hl, hv', hh', hn, g1, g2]; simp; done))); (refine st rfl ?_; conv => arg 3; whnf))))
    refine n_ret0 rfl rfl fun ids' w' hp hI' => ⟨ret_bool (by simp [hy1, hx1, hl, hv', hh', hn, g1, g2]), hI'.frm⟩
  by_cases h6 : k = 6
  · subst h6
    simp [fitsB] at h
    obtain ⟨⟨⟨hl, hx1⟩, hy1⟩, ⟨hv, hh⟩, hn⟩ := h
    have hv' : IntKind.i64.wrap (y.v - x.v) = n := by rw [e1, hv]
    have hh' : IntKind.i64.wrap (y.h - x.h) = -n := by rw [e2, hh]
    have g1 := e3 n (by omega) (by omega)
    have g2 := e3' n (by omega) (by omega)
    refine calls_sm (cx 237 [] [] w) (vals := [.agg (opS 6 nm A B), .int .i64 n, .agg x.sv, .agg y.sv]) mixed Try.func16 rfl rfl rfl hI rfl (st rfl ?_); conv => arg 3; whnf
    (repeat (first | (refine n_must rfl ?_; (refine st rfl ?_; conv => arg 3; whnf)) | (refine n_chk (drawF_ok (by decide +kernel)) ?_; (refine st rfl ?_; conv => arg 3; whnf)) | (refine n_same rfl ?_; (refine st rfl ?_; conv => arg 3; whnf)) | (refine n_must ?_ ?_; (focus (first | (simp [hy1, hx1, hl, hv', hh', hn, g1, g2]; done) | (simp [hy1, hx1, hl, hv', hh', hn, g1, g2]; omega) | (simp only [hy1, hx1, hl, hv', hh', hn, g1, g2]; simp; done))); (refine st rfl ?_; conv => arg 3; whnf)) | (refine n_brT ?_ ?_; (focus (first | (simp [hy1, hx1, hl, hv', hh', hn, g1, g2]; done) | (simp [hy1, hx1, hl, hv', hh', hn, g1, g2]; omega) | (simp only [hy1, hx1, hl, hv', hh', hn, g1, g2]; simp; done))); (refine st rfl ?_; conv => arg 3; whnf)) | (refine n_brF ?_ ?_; (focus (first | (simp [hy1, hx1, hl, hv', hh', hn, g1, g2]; done) | (simp [hy1, hx1, hl, hv', hh', hn, g1, g2]; omega) | (simp only [hy1, hx1, hl, hv', hh', hn, g1, g2]; simp; done))); (refine st rfl ?_; conv => arg 3; whnf))))
    refine n_ret0 rfl rfl fun ids' w' hp hI' => ⟨ret_bool (by simp [hy1, hx1, hl, hv', hh', hn, g1, g2]), hI'.frm⟩
  by_cases h12 : k = 12
  · subst h12
    simp [fitsB] at h
    obtain ⟨⟨⟨hl, hx1⟩, hy1⟩, ⟨hv, hh⟩, hn⟩ := h
    generalize hU : y.v - x.v = U at *
    have hh' : IntKind.i64.wrap (y.h - x.h) = -U := by rw [e2, hh]
    have g1 := e3 U (by omega) (by omega)
    have g2 := e3' U (by omega) (by omega)
    refine calls_sm (cx 237 [] [] w) (vals := [.agg (opS 12 nm A B), .int .i64 n, .agg x.sv, .agg y.sv]) mixed Try.func16 rfl rfl rfl hI rfl (st rfl ?_); conv => arg 3; whnf
    (repeat (first | (refine n_must rfl ?_; (refine st rfl ?_; conv => arg 3; whnf)) | (refine n_chk (drawF_ok (by decide +kernel)) ?_; (refine st rfl ?_; conv => arg 3; whnf)) | (refine n_same rfl ?_; (refine st rfl ?_; conv => arg 3; whnf)) | (refine n_must ?_ ?_; (focus (first | (simp [hy1, hx1, hl, hU, e1, hh', hn, hv, g1, g2]; done) | (simp [hy1, hx1, hl, hU, e1, hh', hn, hv, g1, g2]; omega) | (simp only [hy1, hx1, hl, hU, e1, hh', hn, hv, g1, g2]; simp; done))); (refine st rfl ?_; conv => arg 3; whnf)) | (refine n_brT ?_ ?_; (focus (first | (simp [hy1, hx1, hl, hU, e1, hh', hn, hv, g1, g2]; done) | (simp [hy1, hx1, hl, hU, e1, hh', hn, hv, g1, g2]; omega) | (simp only [hy1, hx1, hl, hU, e1, hh', hn, hv, g1, g2]; simp; done))); (refine st rfl ?_; conv => arg 3; whnf)) | (refine n_brF ?_ ?_; (focus (first | (simp [hy1, hx1, hl, hU, e1, hh', hn, hv, g1, g2]; done) | (simp [hy1, hx1, hl, hU, e1, hh', hn, hv, g1, g2]; omega) | (simp only [hy1, hx1, hl, hU, e1, hh', hn, hv, g1, g2]; simp; done))); (refine st rfl ?_; conv => arg 3; whnf))))
    refine n_ret0 rfl rfl fun ids' w' hp hI' => ⟨ret_bool (by simp [hy1, hx1, hl, hU, e1, hh', hn, hv, g1, g2]), hI'.frm⟩
  by_cases h7 : k = 7
  · subst h7
    simp [fitsB] at h
    obtain ⟨⟨⟨hl, hx1⟩, hy1⟩, hv, hn⟩ := h
    subst hv
    refine calls_sm (cx 237 [] [] w) (vals := [.agg (opS 7 nm A B), .int .i64 n, .agg x.sv, .agg x.sv]) mixed Try.func16 rfl rfl rfl hI rfl (st rfl ?_); conv => arg 3; whnf
    (repeat (first | (refine n_must rfl ?_; (refine st rfl ?_; conv => arg 3; whnf)) | (refine n_chk (drawF_ok (by decide +kernel)) ?_; (refine st rfl ?_; conv => arg 3; whnf)) | (refine n_same rfl ?_; (refine st rfl ?_; conv => arg 3; whnf)) | (refine n_must ?_ ?_; (focus (first | (simp [hy1, hn]; done) | (simp [hy1, hn]; omega) | (simp only [hy1, hn]; simp; done))); (refine st rfl ?_; conv => arg 3; whnf)) | (refine n_brT ?_ ?_; (focus (first | (simp [hy1, hn]; done) | (simp [hy1, hn]; omega) | (simp only [hy1, hn]; simp; done))); (refine st rfl ?_; conv => arg 3; whnf)) | (refine n_brF ?_ ?_; (focus (first | (simp [hy1, hn]; done) | (simp [hy1, hn]; omega) | (simp only [hy1, hn]; simp; done))); (refine st rfl ?_; conv => arg 3; whnf))))
    refine n_ret0 rfl rfl fun ids' w' hp hI' => ⟨ret_bool (by simp [hn]), hI'.frm⟩
  by_cases h8 : k = 8
  · subst h8
    simp [fitsB] at h
    obtain ⟨⟨⟨hl, hx1⟩, hy1⟩, ⟨⟨hn, hn2⟩, hv⟩, hh⟩ := h
    have hv' : IntKind.i64.wrap (y.v - x.v) = -B := by rw [e1, hv]
    have hh' : IntKind.i64.wrap (y.h - x.h) = 0 := by rw [e2, hh]
    have g1 := e3 B (by omega) (by omega)
    have g2 := e3' B (by omega) (by omega)
    have hxA : x.v = A := by rw [← hn, hn2]
    have hv2 := hv'
    rw [hxA] at hv2
    refine calls_sm (cx 237 [] [] w) (vals := [.agg (opS 8 nm A B), .int .i64 n, .agg x.sv, .agg y.sv]) mixed Try.func16 rfl rfl rfl hI rfl (st rfl ?_); conv => arg 3; whnf
    (repeat (first | (refine n_must rfl ?_; (refine st rfl ?_; conv => arg 3; whnf)) | (refine n_chk (drawF_ok (by decide +kernel)) ?_; (refine st rfl ?_; conv => arg 3; whnf)) | (refine n_same rfl ?_; (refine st rfl ?_; conv => arg 3; whnf)) | (refine n_must ?_ ?_; (focus (first | (simp [hy1, hx1, hl, hv', hv2, hh', hn2, hxA, g1, g2]; done) | (simp [hy1, hx1, hl, hv', hv2, hh', hn2, hxA, g1, g2]; omega) | (simp only [hy1, hx1, hl, hv', hv2, hh', hn2, hxA, g1, g2]; simp; done))); (refine st rfl ?_; conv => arg 3; whnf)) | (refine n_brT ?_ ?_; (focus (first | (simp [hy1, hx1, hl, hv', hv2, hh', hn2, hxA, g1, g2]; done) | (simp [hy1, hx1, hl, hv', hv2, hh', hn2, hxA, g1, g2]; omega) | (simp only [hy1, hx1, hl, hv', hv2, hh', hn2, hxA, g1, g2]; simp; done))); (refine st rfl ?_; conv => arg 3; whnf)) | (refine n_brF ?_ ?_; (focus (first | (simp [hy1, hx1, hl, hv', hv2, hh', hn2, hxA, g1, g2]; done) | (simp [hy1, hx1, hl, hv', hv2, hh', hn2, hxA, g1, g2]; omega) | (simp only [hy1, hx1, hl, hv', hv2, hh', hn2, hxA, g1, g2]; simp; done))); (refine st rfl ?_; conv => arg 3; whnf))))
    refine n_ret0 rfl rfl fun ids' w' hp hI' => ⟨ret_bool (by simp [hy1, hx1, hl, hv', hv2, hh', hn2, hxA, g1, g2]), hI'.frm⟩
  by_cases h9 : k = 9
  · subst h9
    simp [fitsB] at h
    obtain ⟨⟨⟨hl, hx1⟩, hy1⟩, ⟨hn, hv⟩, hh⟩ := h
    have hh' : IntKind.i64.wrap (y.h - x.h) = 0 := by rw [e2, hh]
    refine calls_sm (cx 237 [] [] w) (vals := [.agg (opS 9 nm A B), .int .i64 n, .agg x.sv, .agg y.sv]) mixed Try.func16 rfl rfl rfl hI rfl (st rfl ?_); conv => arg 3; whnf
    (repeat (first | (refine n_must rfl ?_; (refine st rfl ?_; conv => arg 3; whnf)) | (refine n_chk (drawF_ok (by decide +kernel)) ?_; (refine st rfl ?_; conv => arg 3; whnf)) | (refine n_same rfl ?_; (refine st rfl ?_; conv => arg 3; whnf)) | (refine n_must ?_ ?_; (focus (first | (simp [hy1, hx1, hl, hv, hh', hn]; done) | (simp [hy1, hx1, hl, hv, hh', hn]; omega) | (simp only [hy1, hx1, hl, hv, hh', hn]; simp; done))); (refine st rfl ?_; conv => arg 3; whnf)) | (refine n_brT ?_ ?_; (focus (first | (simp [hy1, hx1, hl, hv, hh', hn]; done) | (simp [hy1, hx1, hl, hv, hh', hn]; omega) | (simp only [hy1, hx1, hl, hv, hh', hn]; simp; done))); (refine st rfl ?_; conv => arg 3; whnf)) | (refine n_brF ?_ ?_; (focus (first | (simp [hy1, hx1, hl, hv, hh', hn]; done) | (simp [hy1, hx1, hl, hv, hh', hn]; omega) | (simp only [hy1, hx1, hl, hv, hh', hn]; simp; done))); (refine st rfl ?_; conv => arg 3; whnf))))
    refine n_ret0 rfl rfl fun ids' w' hp hI' => ⟨ret_bool (by simp [hy1, hx1, hl, hv, hh', hn]), hI'.frm⟩
  by_cases h10 : k = 10
  · subst h10
    simp [fitsB] at h
    obtain ⟨hy1, ⟨⟨hn, hl⟩, hv⟩, hh⟩ := h
    have hv' : IntKind.i64.wrap (y.v - x.v) = 0 := by rw [e1, hv]
    have hh' : IntKind.i64.wrap (y.h - x.h) = 0 := by rw [e2, hh]
    refine calls_sm (cx 237 [] [] w) (vals := [.agg (opS 10 nm A B), .int .i64 n, .agg x.sv, .agg y.sv]) mixed Try.func16 rfl rfl rfl hI rfl (st rfl ?_); conv => arg 3; whnf
    (repeat (first | (refine n_must rfl ?_; (refine st rfl ?_; conv => arg 3; whnf)) | (refine n_chk (drawF_ok (by decide +kernel)) ?_; (refine st rfl ?_; conv => arg 3; whnf)) | (refine n_same rfl ?_; (refine st rfl ?_; conv => arg 3; whnf)) | (refine n_must ?_ ?_; (focus (first | (simp [hy1, hl, hv', hh', hn]; done) | (simp [hy1, hl, hv', hh', hn]; omega) | (simp only [hy1, hl, hv', hh', hn]; simp; done))); (refine st rfl ?_; conv => arg 3; whnf)) | (refine n_brT ?_ ?_; (focus (first | (simp [hy1, hl, hv', hh', hn]; done) | (simp [hy1, hl, hv', hh', hn]; omega) | (simp only [hy1, hl, hv', hh', hn]; simp; done))); (refine st rfl ?_; conv => arg 3; whnf)) | (refine n_brF ?_ ?_; (focus (first | (simp [hy1, hl, hv', hh', hn]; done) | (simp [hy1, hl, hv', hh', hn]; omega) | (simp only [hy1, hl, hv', hh', hn]; simp; done))); (refine st rfl ?_; conv => arg 3; whnf))))
    refine n_ret0 rfl rfl fun ids' w' hp hI' => ⟨ret_bool (by simp [hy1, hl, hv', hh', hn]), hI'.frm⟩
  exfalso
  simp [fitsB, h1, h2, h3, h4, h5, h6, h7, h8, h9, h10, h12] at h
end Go.Proofs.Yteapjjkgbnnipaa
