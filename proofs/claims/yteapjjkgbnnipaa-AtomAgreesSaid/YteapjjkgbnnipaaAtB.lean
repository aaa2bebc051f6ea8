/- Package atom: what each op does to its counter. -/
import Derived.Test.YteapjjkgbnnipaaAtA
set_option maxRecDepth 100000
set_option linter.unusedSimpArgs false
set_option linter.unusedVariables false
set_option maxHeartbeats 2000000
namespace Go.Proofs.Yteapjjkgbnnipaa
open Go.RowKit
open Go.Maps (Keyed)

/-- A counter; hb: the block of its holds. -/
structure Ctr where
  limit : Int
  value : Int
  held : Int
  hb : Nat
  holds : List (Int × Int)
abbrev Ctr.cells (s : Ctr) : Array Value := #[.int .i64 s.limit, .int .i64 s.value, .int .i64 s.held, .map (some s.hb)]
abbrev Ctr.sv (s : Ctr) : List SV := [.int .i64 s.limit, .int .i64 s.value, .int .i64 s.held, .raw (.map (some s.hb))]
def Ctr.sum (l : List (Int × Int)) : Int := (l.map (·.2)).sum
structure Ctr.ok (s : Ctr) : Prop where
  v0 : 0 ≤ s.value
  h0 : 0 ≤ s.held
  sum : s.value + s.held ≤ s.limit
  cap : s.limit ≤ 1099511627776
  all : ∀ p ∈ s.holds, 0 ≤ p.2
  held : s.held = Ctr.sum s.holds

abbrev i64 (x : Int) : Prop := -9223372036854775808 ≤ x ∧ x ≤ 9223372036854775807
theorem wf_of_i64 {x : Int} (h : i64 x) : (Lit.int .i64 x).wf = true := by
  simp [Lit.wf]
  have e1 : IntKind.i64.min = -9223372036854775808 := by decide
  have e2 : IntKind.i64.max = 9223372036854775807 := by decide
  omega
def intE : KeyEnc Try.prog 3 Int := intEnc Try.prog 3 .i64 (by kernel_rfl)
theorem intK : Keyed Try.prog 3 := Go.Maps.int_keyed (q := .i64) (by kernel_rfl)
abbrev intV (n : Int) : Value := .int .i64 n
/-- The part: one map of holds. -/
def holdsRes (hb : Nat) (m : List (Int × Int)) : Res where
  fp := [hb]
  R w := MapOf intE intV w hb m
  stable := fun w w' hk h => h.keep (hk hb (by simp))

def Ctr.inc (s : Ctr) (by_ : Int) : Ctr × Int × Int := if s.value + by_ < 0 then (s, 0, 60) else if s.limit < s.value + by_ + s.held then (s, 0, 60) else ({ s with value := s.value + by_ }, 0, 0)
def Ctr.hold (s : Ctr) (a h : Int) : Ctr × Int × Int := if s.value < a then (s, 0, 60) else if (mget s.holds h).isSome then (s, 0, 1) else if h < 1 then (s, 0, 1) else ({ s with value := s.value - a, held := s.held + a, holds := mput s.holds h a }, h, 0)
def Ctr.had (s : Ctr) (a : Int) : Int := (mget s.holds a).getD 0
def Ctr.end_ (s : Ctr) (k a : Int) : Ctr × Int × Int := if s.had a = 0 then (s, 0, 70) else ({ s with holds := mput s.holds a 0, held := s.held - s.had a, value := if k = 5 then s.value else s.value + s.had a }, if k = 12 then 0 else s.had a, 0)
def Ctr.take (s : Ctr) (a b : Int) : Ctr × Int × Int := if s.value ≠ a then (s, 0, 110) else if s.value < b then (s, 0, 60) else ({ s with value := s.value - b }, a, 0)
def Ctr.reset (s : Ctr) (a : Int) : Ctr × Int × Int := if s.limit < a + s.held then (s, 0, 61) else ({ s with value := a }, a, 0)
def Ctr.recap (s : Ctr) (a : Int) : Ctr × Int × Int := if a < s.value + s.held then (s, 0, 61) else ({ s with limit := a }, a, 0)

abbrev opV (k : Int) (s : ByteArray) (a b : Int) : Array Value := #[.int .i64 k, .string s, .int .i64 a, .int .i64 b]
abbrev opS (k : Int) (s : ByteArray) (a b : Int) : List SV := [.int .i64 k, .str s, .int .i64 a, .int .i64 b]
abbrev ansV (n e : Int) : Value := .tuple #[.int .i64 n, .int .i64 e]
abbrev ansS (n e : Int) : SV := .tup [.int .i64 n, .int .i64 e]
abbrev pV (b : Nat) : Value := .pointer (some ⟨b, 0, none⟩)
abbrev mvV : Value := .func (.func 33) #[] #[]
abbrev mvS : SV := .fn (.func 33) [] []

/-! ### The closures -/
theorem move_ok {cb : Nat} {w : World} (s : Ctr) (v h : Int) (hv : i64 (s.value + v)) (hh : i64 (s.held + h)) (hb : Blk w cb s.cells 62) :
    Calls Try.prog 33 #[pV cb, .int .i64 v, .int .i64 h] w fun e w' => e = .returned (.tuple #[]) ∧ Frm [cb] w w' ∧ Blk w' cb { s with value := s.value + v, held := s.held + h : Ctr }.cells 62 := by
  have hI : Inv (cx 24 [] [cb] w) w [cb] [⟨62, s.sv, true⟩] := (Inv.nil w).cons (by simp) rfl hb (by simp)
  refine calls_sm (cx 24 [] [cb] w) (vals := [.ptr 0 0, .int .i64 v, .int .i64 h]) mixed Try.func33 rfl rfl rfl hI rfl (st rfl ?_); conv => arg 3; whnf
  (repeat (first | (refine n_must rfl ?_; (refine st rfl ?_; conv => arg 3; whnf)) | (refine n_chk (drawF_ok (by decide +kernel)) ?_; (refine st rfl ?_; conv => arg 3; whnf)) | (refine n_same rfl ?_; (refine st rfl ?_; conv => arg 3; whnf)) | (refine n_brT ?_ ?_; (focus (simp <;> fail)); (refine st rfl ?_; conv => arg 3; whnf)) | (refine n_brF ?_ ?_; (focus (simp <;> fail)); (refine st rfl ?_; conv => arg 3; whnf))))
  refine n_end0 rfl rfl fun ids' w' hp hI' => ⟨rfl, hI'.frm, ?_⟩
  have hB := (hI'.blk_at hp 0 rfl rfl rfl)
  rw [w64 hv.1 hv.2, w64 hh.1 hh.2] at hB
  exact hB

theorem inc_ok {cb bb vb : Nat} {w : World} (s : Ctr) (ok : s.ok) (by_ : Int) (h1 : -1099511627776 ≤ by_ ∧ by_ ≤ 1099511627776) (hb : Blk w cb s.cells 62) (h2 : Blk w bb #[.int .i64 by_] 3) (h3 : Blk w vb #[mvV] 82) (n1 : bb ≠ cb) (n2 : vb ≠ cb) (n3 : vb ≠ bb) :
    Calls Try.prog 34 #[pV cb, pV bb, pV vb] w fun e w' => e = .returned (ansV (s.inc by_).2.1 (s.inc by_).2.2) ∧ Frm [cb] w w' ∧ Blk w' cb (s.inc by_).1.cells 62 := by
  obtain ⟨v0, h0, sum, cap, _, _⟩ := ok
  have hI : Inv (cx 35 [] [cb] w) w [cb, bb, vb] [⟨62, s.sv, true⟩, ⟨3, [.int .i64 by_], false⟩, ⟨82, [mvS], false⟩] :=
    (((Inv.nil w).cons (by simp) rfl hb (by simp)).cons (by simp [n1]) rfl h2 (by simp)).cons (by simp [n2, n3]) rfl h3 (by simp)
  refine calls_sm (cx 35 [] [cb] w) (vals := [.ptr 0 0, .ptr 1 0, .ptr 2 0]) mixed Try.func34 rfl rfl rfl hI rfl (st rfl ?_); conv => arg 3; whnf
  have e1 : IntKind.i64.wrap (s.value + by_) = s.value + by_ := w64 (by omega) (by omega)
  have e2 : IntKind.i64.wrap (s.value + by_ + s.held) = s.value + by_ + s.held := w64 (by omega) (by omega)
  (repeat (first | (refine n_must rfl ?_; (refine st rfl ?_; conv => arg 3; whnf)) | (refine n_chk (drawF_ok (by decide +kernel)) ?_; (refine st rfl ?_; conv => arg 3; whnf)) | (refine n_same rfl ?_; (refine st rfl ?_; conv => arg 3; whnf)) | (refine n_brT ?_ ?_; (focus (simp <;> fail)); (refine st rfl ?_; conv => arg 3; whnf)) | (refine n_brF ?_ ?_; (focus (simp <;> fail)); (refine st rfl ?_; conv => arg 3; whnf))))
  refine n_br (fun hb1 => ?_) (fun hb1 => ?_) <;> rw [e1] at hb1 <;> simp only [decide_eq_true_eq, decide_eq_false_iff_not] at hb1 <;> (refine st rfl ?_; conv => arg 3; whnf)
  · (repeat (first | (refine n_must rfl ?_; (refine st rfl ?_; conv => arg 3; whnf)) | (refine n_chk (drawF_ok (by decide +kernel)) ?_; (refine st rfl ?_; conv => arg 3; whnf)) | (refine n_same rfl ?_; (refine st rfl ?_; conv => arg 3; whnf)) | (refine n_brT ?_ ?_; (focus (simp <;> fail)); (refine st rfl ?_; conv => arg 3; whnf)) | (refine n_brF ?_ ?_; (focus (simp <;> fail)); (refine st rfl ?_; conv => arg 3; whnf))))
    have e : s.inc by_ = (s, 0, 60) := by simp [Ctr.inc, hb1]
    rw [e]
    exact n_ret0 rfl rfl fun ids' w' hp hI' => ⟨rfl, hI'.frm, (hI'.blk_at hp 0 rfl rfl rfl)⟩
  · (repeat (first | (refine n_must rfl ?_; (refine st rfl ?_; conv => arg 3; whnf)) | (refine n_chk (drawF_ok (by decide +kernel)) ?_; (refine st rfl ?_; conv => arg 3; whnf)) | (refine n_same rfl ?_; (refine st rfl ?_; conv => arg 3; whnf)) | (refine n_brT ?_ ?_; (focus (simp <;> fail)); (refine st rfl ?_; conv => arg 3; whnf)) | (refine n_brF ?_ ?_; (focus (simp <;> fail)); (refine st rfl ?_; conv => arg 3; whnf))))
    refine n_br (fun hb2 => ?_) (fun hb2 => ?_) <;> rw [e1, e2] at hb2 <;> simp only [decide_eq_true_eq, decide_eq_false_iff_not] at hb2 <;> (refine st rfl ?_; conv => arg 3; whnf)
    · (repeat (first | (refine n_must rfl ?_; (refine st rfl ?_; conv => arg 3; whnf)) | (refine n_chk (drawF_ok (by decide +kernel)) ?_; (refine st rfl ?_; conv => arg 3; whnf)) | (refine n_same rfl ?_; (refine st rfl ?_; conv => arg 3; whnf)) | (refine n_brT ?_ ?_; (focus (simp <;> fail)); (refine st rfl ?_; conv => arg 3; whnf)) | (refine n_brF ?_ ?_; (focus (simp <;> fail)); (refine st rfl ?_; conv => arg 3; whnf))))
      have e : s.inc by_ = (s, 0, 60) := by rw [Ctr.inc, if_neg hb1, if_pos (by omega)]
      rw [e]
      exact n_ret0 rfl rfl fun ids' w' hp hI' => ⟨rfl, hI'.frm, (hI'.blk_at hp 0 rfl rfl rfl)⟩
    · (repeat (first | (refine n_must rfl ?_; (refine st rfl ?_; conv => arg 3; whnf)) | (refine n_chk (drawF_ok (by decide +kernel)) ?_; (refine st rfl ?_; conv => arg 3; whnf)) | (refine n_same rfl ?_; (refine st rfl ?_; conv => arg 3; whnf)) | (refine n_brT ?_ ?_; (focus (simp <;> fail)); (refine st rfl ?_; conv => arg 3; whnf)) | (refine n_brF ?_ ?_; (focus (simp <;> fail)); (refine st rfl ?_; conv => arg 3; whnf))))
      refine n_updP 0 (.tup []) (Ctr.sv { s with value := s.value + by_, held := s.held + 0 }) rfl rfl rfl rfl rfl rfl rfl (fun _ w1 hp1 hI1 => move_ok s by_ 0 ⟨by omega, by omega⟩ ⟨by omega, by omega⟩ (hI1.blk_at hp1 0 rfl rfl rfl)) ?_; (refine st rfl ?_; conv => arg 3; whnf)
      (repeat (first | (refine n_must rfl ?_; (refine st rfl ?_; conv => arg 3; whnf)) | (refine n_chk (drawF_ok (by decide +kernel)) ?_; (refine st rfl ?_; conv => arg 3; whnf)) | (refine n_same rfl ?_; (refine st rfl ?_; conv => arg 3; whnf)) | (refine n_brT ?_ ?_; (focus (simp <;> fail)); (refine st rfl ?_; conv => arg 3; whnf)) | (refine n_brF ?_ ?_; (focus (simp <;> fail)); (refine st rfl ?_; conv => arg 3; whnf))))
      have e : s.inc by_ = ({ s with value := s.value + by_ }, 0, 0) := by rw [Ctr.inc, if_neg hb1, if_neg (by omega)]
      rw [e]
      refine n_ret0 rfl rfl fun ids' w' hp hI' => ⟨rfl, hI'.frm, ?_⟩
      have hB := (hI'.blk_at hp 0 rfl rfl rfl)
      simp only [Int.add_zero] at hB
      exact hB

theorem take_ok {cb ob vb : Nat} {w : World} (s : Ctr) (ok : s.ok) (k : Int) (nm : ByteArray) (a b : Int) (h1 : 0 ≤ b ∧ b ≤ 1099511627776) (hb : Blk w cb s.cells 62) (h2 : Blk w ob (opV k nm a b) 29) (h3 : Blk w vb #[mvV] 82) (n1 : ob ≠ cb) (n2 : vb ≠ cb) (n3 : vb ≠ ob) :
    Calls Try.prog 37 #[pV cb, pV ob, pV vb] w fun e w' => e = .returned (ansV (s.take a b).2.1 (s.take a b).2.2) ∧ Frm [cb] w w' ∧ Blk w' cb (s.take a b).1.cells 62 := by
  obtain ⟨v0, h0, sum, cap, _, _⟩ := ok
  have hI : Inv (cx 28 [] [cb] w) w [cb, ob, vb] [⟨62, s.sv, true⟩, ⟨29, opS k nm a b, false⟩, ⟨82, [mvS], false⟩] :=
    (((Inv.nil w).cons (by simp) rfl hb (by simp)).cons (by simp [n1]) rfl h2 (by simp)).cons (by simp [n2, n3]) rfl h3 (by simp)
  refine calls_sm (cx 28 [] [cb] w) (vals := [.ptr 0 0, .ptr 1 0, .ptr 2 0]) mixed Try.func37 rfl rfl rfl hI rfl (st rfl ?_); conv => arg 3; whnf
  have e1 : IntKind.i64.wrap (0 - b) = -b := by rw [w64 (by omega) (by omega)]; omega
  (repeat (first | (refine n_must rfl ?_; (refine st rfl ?_; conv => arg 3; whnf)) | (refine n_chk (drawF_ok (by decide +kernel)) ?_; (refine st rfl ?_; conv => arg 3; whnf)) | (refine n_same rfl ?_; (refine st rfl ?_; conv => arg 3; whnf)) | (refine n_brT ?_ ?_; (focus (simp <;> fail)); (refine st rfl ?_; conv => arg 3; whnf)) | (refine n_brF ?_ ?_; (focus (simp <;> fail)); (refine st rfl ?_; conv => arg 3; whnf))))
  refine n_br (fun hb1 => ?_) (fun hb1 => ?_) <;> simp at hb1 <;> (refine st rfl ?_; conv => arg 3; whnf)
  · (repeat (first | (refine n_must rfl ?_; (refine st rfl ?_; conv => arg 3; whnf)) | (refine n_chk (drawF_ok (by decide +kernel)) ?_; (refine st rfl ?_; conv => arg 3; whnf)) | (refine n_same rfl ?_; (refine st rfl ?_; conv => arg 3; whnf)) | (refine n_brT ?_ ?_; (focus (simp <;> fail)); (refine st rfl ?_; conv => arg 3; whnf)) | (refine n_brF ?_ ?_; (focus (simp <;> fail)); (refine st rfl ?_; conv => arg 3; whnf))))
    have e : s.take a b = (s, 0, 110) := by simp [Ctr.take, hb1]
    rw [e]
    exact n_ret0 rfl rfl fun ids' w' hp hI' => ⟨rfl, hI'.frm, (hI'.blk_at hp 0 rfl rfl rfl)⟩
  · (repeat (first | (refine n_must rfl ?_; (refine st rfl ?_; conv => arg 3; whnf)) | (refine n_chk (drawF_ok (by decide +kernel)) ?_; (refine st rfl ?_; conv => arg 3; whnf)) | (refine n_same rfl ?_; (refine st rfl ?_; conv => arg 3; whnf)) | (refine n_brT ?_ ?_; (focus (simp <;> fail)); (refine st rfl ?_; conv => arg 3; whnf)) | (refine n_brF ?_ ?_; (focus (simp <;> fail)); (refine st rfl ?_; conv => arg 3; whnf))))
    refine n_br (fun hb2 => ?_) (fun hb2 => ?_) <;> simp at hb2 <;> (refine st rfl ?_; conv => arg 3; whnf)
    · (repeat (first | (refine n_must rfl ?_; (refine st rfl ?_; conv => arg 3; whnf)) | (refine n_chk (drawF_ok (by decide +kernel)) ?_; (refine st rfl ?_; conv => arg 3; whnf)) | (refine n_same rfl ?_; (refine st rfl ?_; conv => arg 3; whnf)) | (refine n_brT ?_ ?_; (focus (simp <;> fail)); (refine st rfl ?_; conv => arg 3; whnf)) | (refine n_brF ?_ ?_; (focus (simp <;> fail)); (refine st rfl ?_; conv => arg 3; whnf))))
      have e : s.take a b = (s, 0, 60) := by rw [Ctr.take, if_neg (by simpa using hb1), if_pos hb2]
      rw [e]
      exact n_ret0 rfl rfl fun ids' w' hp hI' => ⟨rfl, hI'.frm, (hI'.blk_at hp 0 rfl rfl rfl)⟩
    · (repeat (first | (refine n_must rfl ?_; (refine st rfl ?_; conv => arg 3; whnf)) | (refine n_chk (drawF_ok (by decide +kernel)) ?_; (refine st rfl ?_; conv => arg 3; whnf)) | (refine n_same rfl ?_; (refine st rfl ?_; conv => arg 3; whnf)) | (refine n_brT ?_ ?_; (focus (simp <;> fail)); (refine st rfl ?_; conv => arg 3; whnf)) | (refine n_brF ?_ ?_; (focus (simp <;> fail)); (refine st rfl ?_; conv => arg 3; whnf))))
      refine n_updP 0 (.tup []) (Ctr.sv { s with value := s.value + -b, held := s.held + 0 }) rfl rfl rfl rfl rfl rfl rfl (fun _ w1 hp1 hI1 => by rw [e1]; exact move_ok s (-b) 0 ⟨by omega, by omega⟩ ⟨by omega, by omega⟩ (hI1.blk_at hp1 0 rfl rfl rfl)) ?_; (refine st rfl ?_; conv => arg 3; whnf)
      (repeat (first | (refine n_must rfl ?_; (refine st rfl ?_; conv => arg 3; whnf)) | (refine n_chk (drawF_ok (by decide +kernel)) ?_; (refine st rfl ?_; conv => arg 3; whnf)) | (refine n_same rfl ?_; (refine st rfl ?_; conv => arg 3; whnf)) | (refine n_brT ?_ ?_; (focus (simp <;> fail)); (refine st rfl ?_; conv => arg 3; whnf)) | (refine n_brF ?_ ?_; (focus (simp <;> fail)); (refine st rfl ?_; conv => arg 3; whnf))))
      have e : s.take a b = ({ s with value := s.value - b }, a, 0) := by rw [Ctr.take, if_neg (by simpa using hb1), if_neg (by omega)]
      rw [e]
      refine n_ret0 rfl rfl fun ids' w' hp hI' => ⟨rfl, hI'.frm, ?_⟩
      have hB := (hI'.blk_at hp 0 rfl rfl rfl)
      simp only [Int.add_zero, ← Int.sub_eq_add_neg] at hB
      exact hB

theorem reset_ok {cb ob : Nat} {w : World} (s : Ctr) (ok : s.ok) (k : Int) (nm : ByteArray) (a b : Int) (h1 : 0 ≤ a ∧ a ≤ 1099511627776) (hb : Blk w cb s.cells 62) (h2 : Blk w ob (opV k nm a b) 29) (n1 : ob ≠ cb) :
    Calls Try.prog 38 #[pV cb, pV ob] w fun e w' => e = .returned (ansV (s.reset a).2.1 (s.reset a).2.2) ∧ Frm [cb] w w' ∧ Blk w' cb (s.reset a).1.cells 62 := by
  obtain ⟨v0, h0, sum, cap, _, _⟩ := ok
  have hI : Inv (cx 24 [] [cb] w) w [cb, ob] [⟨62, s.sv, true⟩, ⟨29, opS k nm a b, false⟩] :=
    ((Inv.nil w).cons (by simp) rfl hb (by simp)).cons (by simp [n1]) rfl h2 (by simp)
  refine calls_sm (cx 24 [] [cb] w) (vals := [.ptr 0 0, .ptr 1 0]) mixed Try.func38 rfl rfl rfl hI rfl (st rfl ?_); conv => arg 3; whnf
  have e1 : IntKind.i64.wrap (a + s.held) = a + s.held := w64 (by omega) (by omega)
  (repeat (first | (refine n_must rfl ?_; (refine st rfl ?_; conv => arg 3; whnf)) | (refine n_chk (drawF_ok (by decide +kernel)) ?_; (refine st rfl ?_; conv => arg 3; whnf)) | (refine n_same rfl ?_; (refine st rfl ?_; conv => arg 3; whnf)) | (refine n_brT ?_ ?_; (focus (simp <;> fail)); (refine st rfl ?_; conv => arg 3; whnf)) | (refine n_brF ?_ ?_; (focus (simp <;> fail)); (refine st rfl ?_; conv => arg 3; whnf))))
  refine n_br (fun hb1 => ?_) (fun hb1 => ?_) <;> rw [e1] at hb1 <;> simp only [decide_eq_true_eq, decide_eq_false_iff_not] at hb1 <;> (refine st rfl ?_; conv => arg 3; whnf)
  · (repeat (first | (refine n_must rfl ?_; (refine st rfl ?_; conv => arg 3; whnf)) | (refine n_chk (drawF_ok (by decide +kernel)) ?_; (refine st rfl ?_; conv => arg 3; whnf)) | (refine n_same rfl ?_; (refine st rfl ?_; conv => arg 3; whnf)) | (refine n_brT ?_ ?_; (focus (simp <;> fail)); (refine st rfl ?_; conv => arg 3; whnf)) | (refine n_brF ?_ ?_; (focus (simp <;> fail)); (refine st rfl ?_; conv => arg 3; whnf))))
    have e : s.reset a = (s, 0, 61) := by rw [Ctr.reset, if_pos (by omega)]
    rw [e]
    exact n_ret0 rfl rfl fun ids' w' hp hI' => ⟨rfl, hI'.frm, (hI'.blk_at hp 0 rfl rfl rfl)⟩
  · (repeat (first | (refine n_must rfl ?_; (refine st rfl ?_; conv => arg 3; whnf)) | (refine n_chk (drawF_ok (by decide +kernel)) ?_; (refine st rfl ?_; conv => arg 3; whnf)) | (refine n_same rfl ?_; (refine st rfl ?_; conv => arg 3; whnf)) | (refine n_brT ?_ ?_; (focus (simp <;> fail)); (refine st rfl ?_; conv => arg 3; whnf)) | (refine n_brF ?_ ?_; (focus (simp <;> fail)); (refine st rfl ?_; conv => arg 3; whnf))))
    have e : s.reset a = ({ s with value := a }, a, 0) := by rw [Ctr.reset, if_neg (by omega)]
    rw [e]
    exact n_ret0 rfl rfl fun ids' w' hp hI' => ⟨rfl, hI'.frm, (hI'.blk_at hp 0 rfl rfl rfl)⟩

theorem recap_ok {cb ob : Nat} {w : World} (s : Ctr) (ok : s.ok) (k : Int) (nm : ByteArray) (a b : Int) (hb : Blk w cb s.cells 62) (h2 : Blk w ob (opV k nm a b) 29) (n1 : ob ≠ cb) :
    Calls Try.prog 39 #[pV cb, pV ob] w fun e w' => e = .returned (ansV (s.recap a).2.1 (s.recap a).2.2) ∧ Frm [cb] w w' ∧ Blk w' cb (s.recap a).1.cells 62 := by
  obtain ⟨v0, h0, sum, cap, _, _⟩ := ok
  have hI : Inv (cx 24 [] [cb] w) w [cb, ob] [⟨62, s.sv, true⟩, ⟨29, opS k nm a b, false⟩] :=
    ((Inv.nil w).cons (by simp) rfl hb (by simp)).cons (by simp [n1]) rfl h2 (by simp)
  refine calls_sm (cx 24 [] [cb] w) (vals := [.ptr 0 0, .ptr 1 0]) mixed Try.func39 rfl rfl rfl hI rfl (st rfl ?_); conv => arg 3; whnf
  have e1 : IntKind.i64.wrap (s.value + s.held) = s.value + s.held := w64 (by omega) (by omega)
  (repeat (first | (refine n_must rfl ?_; (refine st rfl ?_; conv => arg 3; whnf)) | (refine n_chk (drawF_ok (by decide +kernel)) ?_; (refine st rfl ?_; conv => arg 3; whnf)) | (refine n_same rfl ?_; (refine st rfl ?_; conv => arg 3; whnf)) | (refine n_brT ?_ ?_; (focus (simp <;> fail)); (refine st rfl ?_; conv => arg 3; whnf)) | (refine n_brF ?_ ?_; (focus (simp <;> fail)); (refine st rfl ?_; conv => arg 3; whnf))))
  refine n_br (fun hb1 => ?_) (fun hb1 => ?_) <;> rw [e1] at hb1 <;> simp only [decide_eq_true_eq, decide_eq_false_iff_not] at hb1 <;> (refine st rfl ?_; conv => arg 3; whnf)
  · (repeat (first | (refine n_must rfl ?_; (refine st rfl ?_; conv => arg 3; whnf)) | (refine n_chk (drawF_ok (by decide +kernel)) ?_; (refine st rfl ?_; conv => arg 3; whnf)) | (refine n_same rfl ?_; (refine st rfl ?_; conv => arg 3; whnf)) | (refine n_brT ?_ ?_; (focus (simp <;> fail)); (refine st rfl ?_; conv => arg 3; whnf)) | (refine n_brF ?_ ?_; (focus (simp <;> fail)); (refine st rfl ?_; conv => arg 3; whnf))))
    have e : s.recap a = (s, 0, 61) := by rw [Ctr.recap, if_pos (by omega)]
    rw [e]
    exact n_ret0 rfl rfl fun ids' w' hp hI' => ⟨rfl, hI'.frm, (hI'.blk_at hp 0 rfl rfl rfl)⟩
  · (repeat (first | (refine n_must rfl ?_; (refine st rfl ?_; conv => arg 3; whnf)) | (refine n_chk (drawF_ok (by decide +kernel)) ?_; (refine st rfl ?_; conv => arg 3; whnf)) | (refine n_same rfl ?_; (refine st rfl ?_; conv => arg 3; whnf)) | (refine n_brT ?_ ?_; (focus (simp <;> fail)); (refine st rfl ?_; conv => arg 3; whnf)) | (refine n_brF ?_ ?_; (focus (simp <;> fail)); (refine st rfl ?_; conv => arg 3; whnf))))
    have e : s.recap a = ({ s with limit := a }, a, 0) := by rw [Ctr.recap, if_neg (by omega)]
    rw [e]
    exact n_ret0 rfl rfl fun ids' w' hp hI' => ⟨rfl, hI'.frm, (hI'.blk_at hp 0 rfl rfl rfl)⟩

theorem read_ok {cb : Nat} {w : World} (s : Ctr) (hb : Blk w cb s.cells 62) :
    Calls Try.prog 40 #[pV cb] w fun e w' => e = .returned (ansV s.value 0) ∧ Frm [cb] w w' ∧ Blk w' cb s.cells 62 := by
  have hI : Inv (cx 8 [] [cb] w) w [cb] [⟨62, s.sv, true⟩] := (Inv.nil w).cons (by simp) rfl hb (by simp)
  refine calls_sm (cx 8 [] [cb] w) (vals := [.ptr 0 0]) mixed Try.func40 rfl rfl rfl hI rfl (st rfl ?_); conv => arg 3; whnf
  (repeat (first | (refine n_must rfl ?_; (refine st rfl ?_; conv => arg 3; whnf)) | (refine n_chk (drawF_ok (by decide +kernel)) ?_; (refine st rfl ?_; conv => arg 3; whnf)) | (refine n_same rfl ?_; (refine st rfl ?_; conv => arg 3; whnf)) | (refine n_brT ?_ ?_; (focus (simp <;> fail)); (refine st rfl ?_; conv => arg 3; whnf)) | (refine n_brF ?_ ?_; (focus (simp <;> fail)); (refine st rfl ?_; conv => arg 3; whnf))))
  exact n_ret0 rfl rfl fun ids' w' hp hI' => ⟨rfl, hI'.frm, (hI'.blk_at hp 0 rfl rfl rfl)⟩

/-! ### The closures that see holds -/
theorem hold_ok {cb ob xb vb : Nat} {w : World} (s : Ctr) (ok : s.ok) (k : Int) (nm : ByteArray) (a b h : Int) (hi : i64 h) (h1 : 0 ≤ a ∧ a ≤ 1099511627776) (hb : Blk w cb s.cells 62) (h2 : Blk w ob (opV k nm a b) 29) (h4 : Blk w xb #[.int .i64 h] 3) (h3 : Blk w vb #[mvV] 82)
    (hm : MapOf intE intV w s.hb s.holds) (n1 : ob ≠ cb) (n2 : xb ≠ cb) (n3 : xb ≠ ob) (n4 : vb ≠ cb) (n5 : vb ≠ ob) (n6 : vb ≠ xb) (n7 : s.hb ≠ cb) (n8 : s.hb ≠ ob) (n9 : s.hb ≠ xb) (n10 : s.hb ≠ vb) :
    Calls Try.prog 35 #[pV cb, pV ob, pV xb, pV vb] w fun e w' => e = .returned (ansV (s.hold a h).2.1 (s.hold a h).2.2) ∧ Frm [cb, s.hb] w w' ∧ Blk w' cb (s.hold a h).1.cells 62 ∧ MapOf intE intV w' s.hb (s.hold a h).1.holds := by
  obtain ⟨v0, h0, sum, cap, _, _⟩ := ok
  have hI : Inv (cx 46 [] [cb, s.hb] w) w [cb, ob, xb, vb, 0] [⟨62, s.sv, true⟩, ⟨29, opS k nm a b, false⟩, ⟨3, [.int .i64 h], false⟩, ⟨82, [mvS], false⟩, ⟨60, [.res (holdsRes s.hb s.holds)], true⟩] :=
    (((((Inv.nil w).cons (by simp) rfl hb (by simp)).cons (by simp [n1]) rfl h2 (by simp)).cons (by simp [n2, n3]) rfl h4 (by simp)).cons (by simp [n4, n5, n6]) rfl h3 (by simp)).consR (by simp [holdsRes, n7, n8, n9, n10]) hm (by simp [holdsRes, hm.lt]) (by simp [holdsRes])
  refine calls_sm (cx 46 [] [cb, s.hb] w) (vals := [.ptr 0 0, .ptr 1 0, .ptr 2 0, .ptr 3 0]) mixed Try.func35 rfl rfl rfl hI rfl (st rfl ?_); conv => arg 3; whnf
  have e1 : IntKind.i64.wrap (0 - a) = -a := by rw [w64 (by omega) (by omega)]; omega
  (repeat (first | (refine n_must rfl ?_; (refine st rfl ?_; conv => arg 3; whnf)) | (refine n_chk (drawF_ok (by decide +kernel)) ?_; (refine st rfl ?_; conv => arg 3; whnf)) | (refine n_same rfl ?_; (refine st rfl ?_; conv => arg 3; whnf)) | (refine n_brT ?_ ?_; (focus (simp <;> fail)); (refine st rfl ?_; conv => arg 3; whnf)) | (refine n_brF ?_ ?_; (focus (simp <;> fail)); (refine st rfl ?_; conv => arg 3; whnf))))
  refine n_br (fun hb1 => ?_) (fun hb1 => ?_) <;> simp at hb1 <;> (refine st rfl ?_; conv => arg 3; whnf)
  · (repeat (first | (refine n_must rfl ?_; (refine st rfl ?_; conv => arg 3; whnf)) | (refine n_chk (drawF_ok (by decide +kernel)) ?_; (refine st rfl ?_; conv => arg 3; whnf)) | (refine n_same rfl ?_; (refine st rfl ?_; conv => arg 3; whnf)) | (refine n_brT ?_ ?_; (focus (simp <;> fail)); (refine st rfl ?_; conv => arg 3; whnf)) | (refine n_brF ?_ ?_; (focus (simp <;> fail)); (refine st rfl ?_; conv => arg 3; whnf))))
    have e : s.hold a h = (s, 0, 60) := by simp [Ctr.hold, hb1]
    rw [e]
    exact n_ret0 rfl rfl fun ids' w' hp hI' => ⟨rfl, hI'.frm, (hI'.blk_at hp 0 rfl rfl rfl), hI'.res 4 rfl rfl⟩
  · (repeat (first | (refine n_must rfl ?_; (refine st rfl ?_; conv => arg 3; whnf)) | (refine n_chk (drawF_ok (by decide +kernel)) ?_; (refine st rfl ?_; conv => arg 3; whnf)) | (refine n_same rfl ?_; (refine st rfl ?_; conv => arg 3; whnf)) | (refine n_brT ?_ ?_; (focus (simp <;> fail)); (refine st rfl ?_; conv => arg 3; whnf)) | (refine n_brF ?_ ?_; (focus (simp <;> fail)); (refine st rfl ?_; conv => arg 3; whnf))))
    refine n_lookup (E := intE) (ev' := intV) (b := s.hb) (kr := .int .i64 h) (zr := .int .i64 0) (z := .int .i64 0) s.holds h (.tup [.int .i64 ((mget s.holds h).getD 0), .bool (mget s.holds h).isSome]) intK rfl rfl rfl rfl rfl rfl (wf_of_i64 hi) rfl rfl (by cases mget s.holds h <;> rfl) (fun _ w1 _ hI1 => by exact hI1.res 4 rfl rfl) ?_
    (refine st rfl ?_; conv => arg 3; whnf)
    (repeat (first | (refine n_must rfl ?_; (refine st rfl ?_; conv => arg 3; whnf)) | (refine n_chk (drawF_ok (by decide +kernel)) ?_; (refine st rfl ?_; conv => arg 3; whnf)) | (refine n_same rfl ?_; (refine st rfl ?_; conv => arg 3; whnf)) | (refine n_brT ?_ ?_; (focus (simp <;> fail)); (refine st rfl ?_; conv => arg 3; whnf)) | (refine n_brF ?_ ?_; (focus (simp <;> fail)); (refine st rfl ?_; conv => arg 3; whnf))))
    have eh : ∀ hs : ((mget s.holds h).isSome || decide (h < 1)) = true, s.hold a h = (s, 0, 1) := by
      intro hs
      rw [Ctr.hold, if_neg (by omega)]
      simp at hs
      rcases hs with hs | hs
      · rw [if_pos hs]
      · split
        · rfl
        · first | rfl | rw [if_pos hs]
    refine n_br (fun hb2 => ?_) (fun hb2 => ?_) <;> (refine st rfl ?_; conv => arg 3; whnf)
    · (repeat (first | (refine n_must rfl ?_; (refine st rfl ?_; conv => arg 3; whnf)) | (refine n_chk (drawF_ok (by decide +kernel)) ?_; (refine st rfl ?_; conv => arg 3; whnf)) | (refine n_same rfl ?_; (refine st rfl ?_; conv => arg 3; whnf)) | (refine n_brT ?_ ?_; (focus (simp <;> fail)); (refine st rfl ?_; conv => arg 3; whnf)) | (refine n_brF ?_ ?_; (focus (simp <;> fail)); (refine st rfl ?_; conv => arg 3; whnf))))
      rw [eh (by simp [hb2])]
      exact n_ret0 rfl rfl fun ids' w' hp hI' => ⟨rfl, hI'.frm, (hI'.blk_at hp 0 rfl rfl rfl), hI'.res 4 rfl rfl⟩
    · (repeat (first | (refine n_must rfl ?_; (refine st rfl ?_; conv => arg 3; whnf)) | (refine n_chk (drawF_ok (by decide +kernel)) ?_; (refine st rfl ?_; conv => arg 3; whnf)) | (refine n_same rfl ?_; (refine st rfl ?_; conv => arg 3; whnf)) | (refine n_brT ?_ ?_; (focus (simp <;> fail)); (refine st rfl ?_; conv => arg 3; whnf)) | (refine n_brF ?_ ?_; (focus (simp <;> fail)); (refine st rfl ?_; conv => arg 3; whnf))))
      refine n_br (fun hb3 => ?_) (fun hb3 => ?_) <;> simp at hb3 <;> (refine st rfl ?_; conv => arg 3; whnf)
      · (repeat (first | (refine n_must rfl ?_; (refine st rfl ?_; conv => arg 3; whnf)) | (refine n_chk (drawF_ok (by decide +kernel)) ?_; (refine st rfl ?_; conv => arg 3; whnf)) | (refine n_same rfl ?_; (refine st rfl ?_; conv => arg 3; whnf)) | (refine n_brT ?_ ?_; (focus (simp <;> fail)); (refine st rfl ?_; conv => arg 3; whnf)) | (refine n_brF ?_ ?_; (focus (simp <;> fail)); (refine st rfl ?_; conv => arg 3; whnf))))
        rw [eh (by simp [hb3])]
        exact n_ret0 rfl rfl fun ids' w' hp hI' => ⟨rfl, hI'.frm, (hI'.blk_at hp 0 rfl rfl rfl), hI'.res 4 rfl rfl⟩
      · (repeat (first | (refine n_must rfl ?_; (refine st rfl ?_; conv => arg 3; whnf)) | (refine n_chk (drawF_ok (by decide +kernel)) ?_; (refine st rfl ?_; conv => arg 3; whnf)) | (refine n_same rfl ?_; (refine st rfl ?_; conv => arg 3; whnf)) | (refine n_brT ?_ ?_; (focus (simp <;> fail)); (refine st rfl ?_; conv => arg 3; whnf)) | (refine n_brF ?_ ?_; (focus (simp <;> fail)); (refine st rfl ?_; conv => arg 3; whnf))))
        refine n_updP 0 (.tup []) (Ctr.sv { s with value := s.value + -a, held := s.held + a }) rfl rfl rfl rfl rfl rfl rfl (fun _ w1 hp1 hI1 => by rw [e1]; exact move_ok s (-a) a ⟨by omega, by omega⟩ ⟨by omega, by omega⟩ (hI1.blk_at hp1 0 rfl rfl rfl)) ?_; (refine st rfl ?_; conv => arg 3; whnf)
        (repeat (first | (refine n_must rfl ?_; (refine st rfl ?_; conv => arg 3; whnf)) | (refine n_chk (drawF_ok (by decide +kernel)) ?_; (refine st rfl ?_; conv => arg 3; whnf)) | (refine n_same rfl ?_; (refine st rfl ?_; conv => arg 3; whnf)) | (refine n_brT ?_ ?_; (focus (simp <;> fail)); (refine st rfl ?_; conv => arg 3; whnf)) | (refine n_brF ?_ ?_; (focus (simp <;> fail)); (refine st rfl ?_; conv => arg 3; whnf))))
        refine n_mapUpdate (E := intE) (ev' := intV) (i := 4) (b := s.hb) (kr := .int .i64 h) (vr := .int .i64 a) (ρ := holdsRes s.hb s.holds) (holdsRes s.hb (mput s.holds h a)) s.holds h a intK rfl rfl rfl rfl rfl rfl (wf_of_i64 hi) rfl rfl rfl rfl rfl (by simp [holdsRes]) rfl (fun _ _ _ _ h => by exact h) (fun _ _ _ _ _ _ _ h => by exact h) ?_
        (refine st rfl ?_; conv => arg 3; whnf)
        (repeat (first | (refine n_must rfl ?_; (refine st rfl ?_; conv => arg 3; whnf)) | (refine n_chk (drawF_ok (by decide +kernel)) ?_; (refine st rfl ?_; conv => arg 3; whnf)) | (refine n_same rfl ?_; (refine st rfl ?_; conv => arg 3; whnf)) | (refine n_brT ?_ ?_; (focus (simp <;> fail)); (refine st rfl ?_; conv => arg 3; whnf)) | (refine n_brF ?_ ?_; (focus (simp <;> fail)); (refine st rfl ?_; conv => arg 3; whnf))))
        have e : s.hold a h = ({ s with value := s.value - a, held := s.held + a, holds := mput s.holds h a }, h, 0) := by
          rw [Ctr.hold, if_neg (by omega), if_neg (by simp [hb2]), if_neg (by omega)]
        rw [e]
        refine n_ret0 rfl rfl fun ids' w' hp hI' => ⟨rfl, hI'.frm, ?_, hI'.res 4 rfl rfl⟩
        have hB := (hI'.blk_at hp 0 rfl rfl rfl)
        simp only [← Int.sub_eq_add_neg] at hB
        exact hB

theorem had_le {l : List (Int × Int)} (hl : ∀ p ∈ l, 0 ≤ p.2) (x : Int) : 0 ≤ (mget l x).getD 0 ∧ (mget l x).getD 0 ≤ Ctr.sum l := by
  have hs : ∀ l : List (Int × Int), (∀ p ∈ l, 0 ≤ p.2) → 0 ≤ Ctr.sum l := by
    intro l
    induction l with
    | nil => intro _; simp [Ctr.sum]
    | cons p l ih =>
      intro h
      have := ih fun q hq => h q (by simp [hq])
      have := h p (by simp)
      simp [Ctr.sum] at *; omega
  induction l with
  | nil => simp [mget, Ctr.sum]
  | cons p l ih =>
    have h1 := ih fun q hq => hl q (by simp [hq])
    have h2 := hl p (by simp)
    have h3 := hs l fun q hq => hl q (by simp [hq])
    obtain ⟨y, n⟩ := p
    simp only [mget]
    split
    · simp [Ctr.sum] at *; omega
    · simp [Ctr.sum] at *; omega

theorem end_ok {cb ob vb : Nat} {w : World} (s : Ctr) (ok : s.ok) (k : Int) (nm : ByteArray) (a b : Int) (hi : i64 a) (hb : Blk w cb s.cells 62) (h2 : Blk w ob (opV k nm a b) 29) (h3 : Blk w vb #[mvV] 82)
    (hm : MapOf intE intV w s.hb s.holds) (n1 : ob ≠ cb) (n4 : vb ≠ cb) (n5 : vb ≠ ob) (n7 : s.hb ≠ cb) (n8 : s.hb ≠ ob) (n10 : s.hb ≠ vb) :
    Calls Try.prog 36 #[pV cb, pV ob, pV vb] w fun e w' => e = .returned (ansV (s.end_ k a).2.1 (s.end_ k a).2.2) ∧ Frm [cb, s.hb] w w' ∧ Blk w' cb (s.end_ k a).1.cells 62 ∧ MapOf intE intV w' s.hb (s.end_ k a).1.holds := by
  have hhad := had_le ok.all a
  rw [← ok.held] at hhad
  obtain ⟨v0, h0, sum, cap, _, _⟩ := ok
  have hI : Inv (cx 38 [] [cb, s.hb] w) w [cb, ob, vb, 0] [⟨62, s.sv, true⟩, ⟨29, opS k nm a b, false⟩, ⟨82, [mvS], false⟩, ⟨60, [.res (holdsRes s.hb s.holds)], true⟩] :=
    ((((Inv.nil w).cons (by simp) rfl hb (by simp)).cons (by simp [n1]) rfl h2 (by simp)).cons (by simp [n4, n5]) rfl h3 (by simp)).consR (by simp [holdsRes, n7, n8, n10]) hm (by simp [holdsRes, hm.lt]) (by simp [holdsRes])
  change 0 ≤ s.had a ∧ s.had a ≤ s.held at hhad
  refine calls_sm (cx 38 [] [cb, s.hb] w) (vals := [.ptr 0 0, .ptr 1 0, .ptr 2 0]) mixed Try.func36 rfl rfl rfl hI rfl (st rfl ?_); conv => arg 3; whnf
  (repeat (first | (refine n_must rfl ?_; (refine st rfl ?_; conv => arg 3; whnf)) | (refine n_chk (drawF_ok (by decide +kernel)) ?_; (refine st rfl ?_; conv => arg 3; whnf)) | (refine n_same rfl ?_; (refine st rfl ?_; conv => arg 3; whnf)) | (refine n_brT ?_ ?_; (focus (simp <;> fail)); (refine st rfl ?_; conv => arg 3; whnf)) | (refine n_brF ?_ ?_; (focus (simp <;> fail)); (refine st rfl ?_; conv => arg 3; whnf))))
  refine n_lookup (E := intE) (ev' := intV) (b := s.hb) (kr := .int .i64 a) (zr := .int .i64 0) (z := .int .i64 0) s.holds a (.int .i64 (s.had a)) intK rfl rfl rfl rfl rfl rfl (wf_of_i64 hi) rfl rfl (by unfold Ctr.had; cases mget s.holds a <;> rfl) (fun _ w1 _ hI1 => by exact hI1.res 3 rfl rfl) ?_
  generalize hn : s.had a = n at hhad
  (refine st rfl ?_; conv => arg 3; whnf)
  have e1 : IntKind.i64.wrap (0 - n) = -n := by rw [w64 (by omega) (by omega)]; omega
  (repeat (first | (refine n_must rfl ?_; (refine st rfl ?_; conv => arg 3; whnf)) | (refine n_chk (drawF_ok (by decide +kernel)) ?_; (refine st rfl ?_; conv => arg 3; whnf)) | (refine n_same rfl ?_; (refine st rfl ?_; conv => arg 3; whnf)) | (refine n_brT ?_ ?_; (focus (simp <;> fail)); (refine st rfl ?_; conv => arg 3; whnf)) | (refine n_brF ?_ ?_; (focus (simp <;> fail)); (refine st rfl ?_; conv => arg 3; whnf))))
  refine n_br (fun hb1 => ?_) (fun hb1 => ?_) <;> simp at hb1 <;> (refine st rfl ?_; conv => arg 3; whnf)
  · (repeat (first | (refine n_must rfl ?_; (refine st rfl ?_; conv => arg 3; whnf)) | (refine n_chk (drawF_ok (by decide +kernel)) ?_; (refine st rfl ?_; conv => arg 3; whnf)) | (refine n_same rfl ?_; (refine st rfl ?_; conv => arg 3; whnf)) | (refine n_brT ?_ ?_; (focus (simp <;> fail)); (refine st rfl ?_; conv => arg 3; whnf)) | (refine n_brF ?_ ?_; (focus (simp <;> fail)); (refine st rfl ?_; conv => arg 3; whnf))))
    have e : s.end_ k a = (s, 0, 70) := by rw [Ctr.end_, hn, if_pos hb1]
    rw [e]
    exact n_ret0 rfl rfl fun ids' w' hp hI' => ⟨rfl, hI'.frm, (hI'.blk_at hp 0 rfl rfl rfl), hI'.res 3 rfl rfl⟩
  · (repeat (first | (refine n_must rfl ?_; (refine st rfl ?_; conv => arg 3; whnf)) | (refine n_chk (drawF_ok (by decide +kernel)) ?_; (refine st rfl ?_; conv => arg 3; whnf)) | (refine n_same rfl ?_; (refine st rfl ?_; conv => arg 3; whnf)) | (refine n_brT ?_ ?_; (focus (simp <;> fail)); (refine st rfl ?_; conv => arg 3; whnf)) | (refine n_brF ?_ ?_; (focus (simp <;> fail)); (refine st rfl ?_; conv => arg 3; whnf))))
    refine n_mapUpdate (E := intE) (ev' := intV) (i := 3) (b := s.hb) (kr := .int .i64 a) (vr := .int .i64 0) (ρ := holdsRes s.hb s.holds) (holdsRes s.hb (mput s.holds a 0)) s.holds a 0 intK rfl rfl rfl rfl rfl rfl (wf_of_i64 hi) rfl rfl rfl rfl rfl (by simp [holdsRes]) rfl (fun _ _ _ _ h => by exact h) (fun _ _ _ _ _ _ _ h => by exact h) ?_
    (refine st rfl ?_; conv => arg 3; whnf)
    (repeat (first | (refine n_must rfl ?_; (refine st rfl ?_; conv => arg 3; whnf)) | (refine n_chk (drawF_ok (by decide +kernel)) ?_; (refine st rfl ?_; conv => arg 3; whnf)) | (refine n_same rfl ?_; (refine st rfl ?_; conv => arg 3; whnf)) | (refine n_brT ?_ ?_; (focus (simp <;> fail)); (refine st rfl ?_; conv => arg 3; whnf)) | (refine n_brF ?_ ?_; (focus (simp <;> fail)); (refine st rfl ?_; conv => arg 3; whnf))))
    refine n_updP 0 (.tup []) (Ctr.sv { s with value := s.value + 0, held := s.held + -n }) rfl rfl rfl rfl rfl rfl rfl (fun _ w1 hp1 hI1 => by rw [e1]; exact move_ok s 0 (-n) ⟨by omega, by omega⟩ ⟨by omega, by omega⟩ (hI1.blk_at hp1 0 rfl rfl rfl)) ?_; (refine st rfl ?_; conv => arg 3; whnf)
    (repeat (first | (refine n_must rfl ?_; (refine st rfl ?_; conv => arg 3; whnf)) | (refine n_chk (drawF_ok (by decide +kernel)) ?_; (refine st rfl ?_; conv => arg 3; whnf)) | (refine n_same rfl ?_; (refine st rfl ?_; conv => arg 3; whnf)) | (refine n_brT ?_ ?_; (focus (simp <;> fail)); (refine st rfl ?_; conv => arg 3; whnf)) | (refine n_brF ?_ ?_; (focus (simp <;> fail)); (refine st rfl ?_; conv => arg 3; whnf))))
    have ee : s.end_ k a = ({ s with holds := mput s.holds a 0, held := s.held - n, value := if k = 5 then s.value else s.value + n }, if k = 12 then 0 else n, 0) := by rw [Ctr.end_, hn, if_neg hb1]
    rw [ee]
    refine n_br (fun hb2 => ?_) (fun hb2 => ?_) <;> simp at hb2 <;> (refine st rfl ?_; conv => arg 3; whnf)
    · rw [if_neg hb2]
      (repeat (first | (refine n_must rfl ?_; (refine st rfl ?_; conv => arg 3; whnf)) | (refine n_chk (drawF_ok (by decide +kernel)) ?_; (refine st rfl ?_; conv => arg 3; whnf)) | (refine n_same rfl ?_; (refine st rfl ?_; conv => arg 3; whnf)) | (refine n_brT ?_ ?_; (focus (simp <;> fail)); (refine st rfl ?_; conv => arg 3; whnf)) | (refine n_brF ?_ ?_; (focus (simp <;> fail)); (refine st rfl ?_; conv => arg 3; whnf))))
      refine n_updP 0 (.tup []) (Ctr.sv { s with value := s.value + 0 + n, held := s.held + -n + 0 }) rfl rfl rfl rfl rfl rfl rfl (fun _ w1 hp1 hI1 => move_ok { s with value := s.value + 0, held := s.held + -n } n 0 ⟨by dsimp only; omega, by dsimp only; omega⟩ ⟨by dsimp only; omega, by dsimp only; omega⟩ (hI1.blk_at hp1 0 rfl rfl rfl)) ?_; (refine st rfl ?_; conv => arg 3; whnf)
      (repeat (first | (refine n_must rfl ?_; (refine st rfl ?_; conv => arg 3; whnf)) | (refine n_chk (drawF_ok (by decide +kernel)) ?_; (refine st rfl ?_; conv => arg 3; whnf)) | (refine n_same rfl ?_; (refine st rfl ?_; conv => arg 3; whnf)) | (refine n_brT ?_ ?_; (focus (simp <;> fail)); (refine st rfl ?_; conv => arg 3; whnf)) | (refine n_brF ?_ ?_; (focus (simp <;> fail)); (refine st rfl ?_; conv => arg 3; whnf))))
      refine n_br (fun hb3 => ?_) (fun hb3 => ?_) <;> simp at hb3 <;> (refine st rfl ?_; conv => arg 3; whnf)
      · (repeat (first | (refine n_must rfl ?_; (refine st rfl ?_; conv => arg 3; whnf)) | (refine n_chk (drawF_ok (by decide +kernel)) ?_; (refine st rfl ?_; conv => arg 3; whnf)) | (refine n_same rfl ?_; (refine st rfl ?_; conv => arg 3; whnf)) | (refine n_brT ?_ ?_; (focus (simp <;> fail)); (refine st rfl ?_; conv => arg 3; whnf)) | (refine n_brF ?_ ?_; (focus (simp <;> fail)); (refine st rfl ?_; conv => arg 3; whnf))))
        rw [if_pos hb3]
        refine n_ret0 rfl rfl fun ids' w' hp hI' => ⟨rfl, hI'.frm, ?_, hI'.res 3 rfl rfl⟩
        have hB := (hI'.blk_at hp 0 rfl rfl rfl)
        simp only [Int.add_zero, ← Int.sub_eq_add_neg] at hB
        exact hB
      · (repeat (first | (refine n_must rfl ?_; (refine st rfl ?_; conv => arg 3; whnf)) | (refine n_chk (drawF_ok (by decide +kernel)) ?_; (refine st rfl ?_; conv => arg 3; whnf)) | (refine n_same rfl ?_; (refine st rfl ?_; conv => arg 3; whnf)) | (refine n_brT ?_ ?_; (focus (simp <;> fail)); (refine st rfl ?_; conv => arg 3; whnf)) | (refine n_brF ?_ ?_; (focus (simp <;> fail)); (refine st rfl ?_; conv => arg 3; whnf))))
        rw [if_neg hb3]
        refine n_ret0 rfl rfl fun ids' w' hp hI' => ⟨rfl, hI'.frm, ?_, hI'.res 3 rfl rfl⟩
        have hB := (hI'.blk_at hp 0 rfl rfl rfl)
        simp only [Int.add_zero, ← Int.sub_eq_add_neg] at hB
        exact hB
    · subst hb2
      rw [if_pos rfl, if_neg (by decide)]
      (repeat (first | (refine n_must rfl ?_; (refine st rfl ?_; conv => arg 3; whnf)) | (refine n_chk (drawF_ok (by decide +kernel)) ?_; (refine st rfl ?_; conv => arg 3; whnf)) | (refine n_same rfl ?_; (refine st rfl ?_; conv => arg 3; whnf)) | (refine n_brT ?_ ?_; (focus (simp <;> fail)); (refine st rfl ?_; conv => arg 3; whnf)) | (refine n_brF ?_ ?_; (focus (simp <;> fail)); (refine st rfl ?_; conv => arg 3; whnf))))
      refine n_ret0 rfl rfl fun ids' w' hp hI' => ⟨rfl, hI'.frm, ?_, hI'.res 3 rfl rfl⟩
      have hB := (hI'.blk_at hp 0 rfl rfl rfl)
      simp only [Int.add_zero, ← Int.sub_eq_add_neg] at hB
      exact hB
end Go.Proofs.Yteapjjkgbnnipaa
