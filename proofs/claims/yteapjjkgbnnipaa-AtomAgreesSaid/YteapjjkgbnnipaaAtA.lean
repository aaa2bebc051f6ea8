/- Package atom: names, amounts, right ops. -/
import Derived.Test.YteapjjkgbnnipaaMore
import Derived.Test.YteapjjkgbnnipaaChecked
set_option maxRecDepth 100000
set_option linter.unusedSimpArgs false
set_option linter.unusedVariables false
set_option maxHeartbeats 2000000
namespace Go.Proofs.Yteapjjkgbnnipaa
open Go.RowKit

theorem mixed : Try.prog.follows .mixedOrders = true := by kernel_rfl
noncomputable abbrev cx (N : Nat) (os : List (Nat × Odr)) (S : List Nat) (w : World) : Ctx := { P := Try.prog, N, os, S, w0 := w }

/-! ### amount -/
def amountB (n : Int) : Bool := decide (1 ≤ n) && decide (n ≤ 1099511627776)
theorem amount_ok (n : Int) (w : World) : Calls Try.prog 31 #[.int .i64 n] w fun e w' => e = .returned (.bool (amountB n)) ∧ Frm [] w w' := by
  have hI := Inv.nil (P := Try.prog) (N := 9) (S := []) (os := []) w
  refine calls_sm (cx 9 [] [] w) (vals := [.int .i64 n]) mixed Try.func31 rfl rfl rfl hI rfl (st rfl ?_); conv => arg 3; whnf
  (repeat' (first | (refine n_must rfl ?_; (refine st rfl ?_; conv => arg 3; whnf)) | (refine n_chk (drawF_ok (by decide +kernel)) ?_; (refine st rfl ?_; conv => arg 3; whnf)) | (refine n_same rfl ?_; (refine st rfl ?_; conv => arg 3; whnf)) | (refine n_must ?_ ?_; (focus (first | (simp; done) | (simp; omega))); (refine st rfl ?_; conv => arg 3; whnf)) | (refine n_brT ?_ ?_; (focus (first | (simp; done) | (simp; omega))); (refine st rfl ?_; conv => arg 3; whnf)) | (refine n_brF ?_ ?_; (focus (first | (simp; done) | (simp; omega))); (refine st rfl ?_; conv => arg 3; whnf)) | (refine n_br (fun hbr => ?_) (fun hbr => ?_) <;> simp at hbr <;> (refine st rfl ?_; conv => arg 3; whnf))))
  all_goals refine n_ret0 rfl rfl fun ids' w' hp hI' => ⟨ret_bool ?_, hI'.frm⟩
  all_goals (simp [amountB]; try omega)

/-! ### named -/
def badB (b : UInt8) : Bool := decide (b.toNat < 33) || decide (126 < b.toNat)
theorem named1_ok (b : UInt8) (w : World) : Calls Try.prog 52 #[.int .u8 b.toNat] w fun e w' => e = .returned (.bool (badB b)) ∧ Frm [] w w' := by
  have hI := Inv.nil (P := Try.prog) (N := 9) (S := []) (os := []) w
  refine calls_sm (cx 9 [] [] w) (vals := [.int .u8 b.toNat]) mixed Try.func52 rfl rfl rfl hI rfl (st rfl ?_); conv => arg 3; whnf
  (repeat' (first | (refine n_must rfl ?_; (refine st rfl ?_; conv => arg 3; whnf)) | (refine n_chk (drawF_ok (by decide +kernel)) ?_; (refine st rfl ?_; conv => arg 3; whnf)) | (refine n_same rfl ?_; (refine st rfl ?_; conv => arg 3; whnf)) | (refine n_must ?_ ?_; (focus (first | (simp; done) | (simp; omega))); (refine st rfl ?_; conv => arg 3; whnf)) | (refine n_brT ?_ ?_; (focus (first | (simp; done) | (simp; omega))); (refine st rfl ?_; conv => arg 3; whnf)) | (refine n_brF ?_ ?_; (focus (first | (simp; done) | (simp; omega))); (refine st rfl ?_; conv => arg 3; whnf)) | (refine n_br (fun hbr => ?_) (fun hbr => ?_) <;> simp at hbr <;> (refine st rfl ?_; conv => arg 3; whnf))))
  all_goals refine n_ret0 rfl rfl fun ids' w' hp hI' => ⟨ret_bool ?_, hI'.frm⟩
  all_goals (simp [badB]; try omega)
  have e : decide (b.toNat < 33) = false := by simp; omega
  rw [e, Bool.false_or]
  apply decide_eq_decide.2
  omega

def firstBad (s : ByteArray) : Int := match s.data.toList.findIdx? badB with | some i => i | none => -1

theorem aggByte : aggB Try.prog 5 = some false := by kernel_rfl
theorem IndexFunc_ok {w : World} {a : Addr} {s : ByteArray} (hs : BytesAt w a s) (ha : a.block < w.heap.size) (hsz : s.size ≤ 4611686018427387904) (cap : Nat) :
    Calls Try.prog 60 #[.slice (some a) s.size cap, .func (.func 52) #[] #[]] w fun e w' => e = .returned (.int .i64 (firstBad s)) ∧ Frm [] w w' := by
  have hI := Inv.nil (P := Try.prog) (N := 19) (S := []) (os := []) w
  refine calls_sm (cx 19 [] [] w) (vals := [.raw (.slice (some a) s.size cap), .fn (.func 52) [] []]) mixed Try.func60 rfl rfl rfl hI rfl (st rfl ?_); conv => arg 3; whnf
  (repeat (first | (refine n_must rfl ?_; (refine st rfl ?_; conv => arg 3; whnf)) | (refine n_chk (drawF_ok (by decide +kernel)) ?_; (refine st rfl ?_; conv => arg 3; whnf)) | (refine n_same rfl ?_; (refine st rfl ?_; conv => arg 3; whnf)) | (refine n_brT ?_ ?_; (focus (simp <;> fail)); (refine st rfl ?_; conv => arg 3; whnf)) | (refine n_brF ?_ ?_; (focus (simp <;> fail)); (refine st rfl ?_; conv => arg 3; whnf))))
  have hget : ∀ j (hj : j < s.data.toList.length), s.data.toList.getD j 0 = s.data.toList[j] := fun j hj => by rw [List.getD, List.getElem?_eq_getElem hj]; rfl
  have hlen : s.data.toList.length = s.size := by simp
  refine n_loop (σ := Nat) (fun i => [(0, .raw (.slice (some a) s.size cap)), (1, .fn (.func 52) [] []), (7, .int .i64 (s.size : Nat)), (8, .int .i64 (i : Nat))]) (fun _ => []) (fun i => i ≤ s.size ∧ ∀ j (hj : j < s.data.toList.length), j < i → badB s.data.toList[j] = false) (fun i => s.size - i) 0 mixed ⟨by omega, by intro j _ h; omega⟩ (fun _ _ => rfl) rfl (by (repeat (first | exact trivial | refine ⟨⟨rfl, rfl⟩, ?_⟩))) (fun s _ => ⟨by (repeat (first | exact trivial | refine ⟨⟨_, rfl⟩, ?_⟩)), by (repeat (first | exact trivial | refine ⟨⟨_, rfl⟩, ?_⟩))⟩) fun i hJ => ?_
  obtain ⟨hi, hJ⟩ := hJ
  (refine st rfl ?_; conv => arg 3; whnf)
  by_cases hlt : i < s.size
  · have hlt' : i < s.data.toList.length := by omega
    have ei : IntKind.i64.wrap ((i : Int) + 1) = ((i + 1 : Nat) : Int) := by rw [w64 (by omega) (by omega)]; simp
    (repeat (first | (refine n_must rfl ?_; (refine st rfl ?_; conv => arg 3; whnf)) | (refine n_chk (drawF_ok (by decide +kernel)) ?_; (refine st rfl ?_; conv => arg 3; whnf)) | (refine n_same rfl ?_; (refine st rfl ?_; conv => arg 3; whnf)) | (refine n_must ?_ ?_; (focus (first | (simp; done) | (simp; omega))); (refine st rfl ?_; conv => arg 3; whnf)) | (refine n_brT ?_ ?_; (focus (first | (simp; done) | (simp; omega))); (refine st rfl ?_; conv => arg 3; whnf)) | (refine n_brF ?_ ?_; (focus (first | (simp; done) | (simp; omega))); (refine st rfl ?_; conv => arg 3; whnf))))
    refine n_ld (.int .u8 s.data.toList[i].toNat) rfl rfl (fun w' hf => load_cell aggByte (by have := (hs.frm hf ha) i hlt; rw [hget i hlt'] at this; simpa using this)) ?_
    (refine st rfl ?_; conv => arg 3; whnf)
    (repeat (first | (refine n_must rfl ?_; (refine st rfl ?_; conv => arg 3; whnf)) | (refine n_chk (drawF_ok (by decide +kernel)) ?_; (refine st rfl ?_; conv => arg 3; whnf)) | (refine n_same rfl ?_; (refine st rfl ?_; conv => arg 3; whnf)) | (refine n_must ?_ ?_; (focus (first | (simp; done) | (simp; omega))); (refine st rfl ?_; conv => arg 3; whnf)) | (refine n_brT ?_ ?_; (focus (first | (simp; done) | (simp; omega))); (refine st rfl ?_; conv => arg 3; whnf)) | (refine n_brF ?_ ?_; (focus (first | (simp; done) | (simp; omega))); (refine st rfl ?_; conv => arg 3; whnf))))
    refine n_sameP (.bool (badB s.data.toList[i])) rfl rfl rfl (fun _ w1 hp1 hI1 => named1_ok s.data.toList[i] w1) ?_; (refine st rfl ?_; conv => arg 3; whnf)
    (repeat (first | (refine n_must rfl ?_; (refine st rfl ?_; conv => arg 3; whnf)) | (refine n_chk (drawF_ok (by decide +kernel)) ?_; (refine st rfl ?_; conv => arg 3; whnf)) | (refine n_same rfl ?_; (refine st rfl ?_; conv => arg 3; whnf)) | (refine n_must ?_ ?_; (focus (first | (simp; done) | (simp; omega))); (refine st rfl ?_; conv => arg 3; whnf)) | (refine n_brT ?_ ?_; (focus (first | (simp; done) | (simp; omega))); (refine st rfl ?_; conv => arg 3; whnf)) | (refine n_brF ?_ ?_; (focus (first | (simp; done) | (simp; omega))); (refine st rfl ?_; conv => arg 3; whnf))))
    refine n_br (fun h1 => ?_) (fun h1 => ?_) <;> (refine st rfl ?_; conv => arg 3; whnf)
    · (repeat (first | (refine n_must rfl ?_; (refine st rfl ?_; conv => arg 3; whnf)) | (refine n_chk (drawF_ok (by decide +kernel)) ?_; (refine st rfl ?_; conv => arg 3; whnf)) | (refine n_same rfl ?_; (refine st rfl ?_; conv => arg 3; whnf)) | (refine n_must ?_ ?_; (focus (first | (simp; done) | (simp; omega))); (refine st rfl ?_; conv => arg 3; whnf)) | (refine n_brT ?_ ?_; (focus (first | (simp; done) | (simp; omega))); (refine st rfl ?_; conv => arg 3; whnf)) | (refine n_brF ?_ ?_; (focus (first | (simp; done) | (simp; omega))); (refine st rfl ?_; conv => arg 3; whnf))))
      refine n_leave ?_
      have e : firstBad s = i := by
        unfold firstBad
        rw [List.findIdx?_eq_some_iff_getElem.2 ⟨hlt', h1, fun j hj => by rw [hJ j (by omega) hj]; simp⟩]
      rw [e]
      exact n_ret0 rfl rfl fun ids' w' hp hI' => ⟨rfl, hI'.frm⟩
    · (repeat (first | (refine n_must rfl ?_; (refine st rfl ?_; conv => arg 3; whnf)) | (refine n_chk (drawF_ok (by decide +kernel)) ?_; (refine st rfl ?_; conv => arg 3; whnf)) | (refine n_same rfl ?_; (refine st rfl ?_; conv => arg 3; whnf)) | (refine n_must ?_ ?_; (focus (first | (simp; done) | (simp; omega))); (refine st rfl ?_; conv => arg 3; whnf)) | (refine n_brT ?_ ?_; (focus (first | (simp; done) | (simp; omega))); (refine st rfl ?_; conv => arg 3; whnf)) | (refine n_brF ?_ ?_; (focus (first | (simp; done) | (simp; omega))); (refine st rfl ?_; conv => arg 3; whnf))))
      refine n_again ⟨i + 1, ⟨by omega, fun j hj hji => ?_⟩, by omega, (by (repeat (first | exact trivial | refine ⟨⟨rfl, rfl⟩, ?_⟩ | refine ⟨⟨rfl, congrArg (SV.int .i64) ei⟩, ?_⟩))), ⟨_, rfl⟩⟩
      by_cases e : j = i
      · subst e; exact h1
      · exact hJ j hj (by omega)
  · (repeat (first | (refine n_must rfl ?_; (refine st rfl ?_; conv => arg 3; whnf)) | (refine n_chk (drawF_ok (by decide +kernel)) ?_; (refine st rfl ?_; conv => arg 3; whnf)) | (refine n_same rfl ?_; (refine st rfl ?_; conv => arg 3; whnf)) | (refine n_must ?_ ?_; (focus (first | (simp; done) | (simp; omega))); (refine st rfl ?_; conv => arg 3; whnf)) | (refine n_brT ?_ ?_; (focus (first | (simp; done) | (simp; omega))); (refine st rfl ?_; conv => arg 3; whnf)) | (refine n_brF ?_ ?_; (focus (first | (simp; done) | (simp; omega))); (refine st rfl ?_; conv => arg 3; whnf))))
    refine n_exit rfl ?_
    (refine st rfl ?_; conv => arg 3; whnf)
    (repeat (first | (refine n_must rfl ?_; (refine st rfl ?_; conv => arg 3; whnf)) | (refine n_chk (drawF_ok (by decide +kernel)) ?_; (refine st rfl ?_; conv => arg 3; whnf)) | (refine n_same rfl ?_; (refine st rfl ?_; conv => arg 3; whnf)) | (refine n_must ?_ ?_; (focus (first | (simp; done) | (simp; omega))); (refine st rfl ?_; conv => arg 3; whnf)) | (refine n_brT ?_ ?_; (focus (first | (simp; done) | (simp; omega))); (refine st rfl ?_; conv => arg 3; whnf)) | (refine n_brF ?_ ?_; (focus (first | (simp; done) | (simp; omega))); (refine st rfl ?_; conv => arg 3; whnf))))
    have e : firstBad s = -1 := by
      unfold firstBad
      rw [List.findIdx?_eq_none_iff.2 fun x hx => ?_]
      obtain ⟨j, hj, rfl⟩ := List.getElem_of_mem hx
      exact hJ j hj (by omega)
    rw [e]
    exact n_ret0 rfl rfl fun ids' w' hp hI' => ⟨rfl, hI'.frm⟩

theorem ContainsFunc_ok {w : World} {a : Addr} {s : ByteArray} (hs : BytesAt w a s) (ha : a.block < w.heap.size) (hsz : s.size ≤ 4611686018427387904) (cap : Nat) :
    Calls Try.prog 51 #[.slice (some a) s.size cap, .func (.func 52) #[] #[]] w fun e w' => e = .returned (.bool (decide (0 ≤ firstBad s))) ∧ Frm [] w w' := by
  have hI := Inv.nil (P := Try.prog) (N := 9) (S := []) (os := []) w
  refine calls_sm (cx 9 [] [] w) (vals := [.raw (.slice (some a) s.size cap), .fn (.func 52) [] []]) mixed Try.func51 rfl rfl rfl hI rfl (st rfl ?_); conv => arg 3; whnf
  (repeat (first | (refine n_must rfl ?_; (refine st rfl ?_; conv => arg 3; whnf)) | (refine n_chk (drawF_ok (by decide +kernel)) ?_; (refine st rfl ?_; conv => arg 3; whnf)) | (refine n_same rfl ?_; (refine st rfl ?_; conv => arg 3; whnf)) | (refine n_brT ?_ ?_; (focus (simp <;> fail)); (refine st rfl ?_; conv => arg 3; whnf)) | (refine n_brF ?_ ?_; (focus (simp <;> fail)); (refine st rfl ?_; conv => arg 3; whnf))))
  refine n_sameP (.int .i64 (firstBad s)) rfl rfl rfl (fun _ w1 hp1 hI1 => IndexFunc_ok (hs.frm hI1.frm ha) (Nat.lt_of_lt_of_le ha hI1.frm.size) hsz cap) ?_; (refine st rfl ?_; conv => arg 3; whnf)
  (repeat (first | (refine n_must rfl ?_; (refine st rfl ?_; conv => arg 3; whnf)) | (refine n_chk (drawF_ok (by decide +kernel)) ?_; (refine st rfl ?_; conv => arg 3; whnf)) | (refine n_same rfl ?_; (refine st rfl ?_; conv => arg 3; whnf)) | (refine n_brT ?_ ?_; (focus (simp <;> fail)); (refine st rfl ?_; conv => arg 3; whnf)) | (refine n_brF ?_ ?_; (focus (simp <;> fail)); (refine st rfl ?_; conv => arg 3; whnf))))
  exact n_ret0 rfl rfl fun ids' w' hp hI' => ⟨rfl, hI'.frm⟩

def namedB (s : ByteArray) : Bool := !(s.toList == ({ data := #[] } : ByteArray).toList) && decide (s.size ≤ 16) && decide (firstBad s < 0)
theorem named_ok (s : ByteArray) (w : World) : Calls Try.prog 32 #[.string s] w fun e w' => e = .returned (.bool (namedB s)) ∧ Frm [] w w' := by
  have hI := Inv.nil (P := Try.prog) (N := 16) (S := []) (os := []) w
  refine calls_sm (cx 16 [] [] w) (vals := [.str s]) mixed Try.func32 rfl rfl rfl hI rfl (st rfl ?_); conv => arg 3; whnf
  (repeat (first | (refine n_must rfl ?_; (refine st rfl ?_; conv => arg 3; whnf)) | (refine n_chk (drawF_ok (by decide +kernel)) ?_; (refine st rfl ?_; conv => arg 3; whnf)) | (refine n_same rfl ?_; (refine st rfl ?_; conv => arg 3; whnf)) | (refine n_brT ?_ ?_; (focus (simp <;> fail)); (refine st rfl ?_; conv => arg 3; whnf)) | (refine n_brF ?_ ?_; (focus (simp <;> fail)); (refine st rfl ?_; conv => arg 3; whnf))))
  refine n_br (fun h1 => ?_) (fun h1 => ?_) <;> (refine st rfl ?_; conv => arg 3; whnf)
  · (repeat (first | (refine n_must rfl ?_; (refine st rfl ?_; conv => arg 3; whnf)) | (refine n_chk (drawF_ok (by decide +kernel)) ?_; (refine st rfl ?_; conv => arg 3; whnf)) | (refine n_same rfl ?_; (refine st rfl ?_; conv => arg 3; whnf)) | (refine n_brT ?_ ?_; (focus (simp <;> fail)); (refine st rfl ?_; conv => arg 3; whnf)) | (refine n_brF ?_ ?_; (focus (simp <;> fail)); (refine st rfl ?_; conv => arg 3; whnf))))
    refine n_br (fun h2 => ?_) (fun h2 => ?_) <;> (refine st rfl ?_; conv => arg 3; whnf)
    · (repeat (first | (refine n_must rfl ?_; (refine st rfl ?_; conv => arg 3; whnf)) | (refine n_chk (drawF_ok (by decide +kernel)) ?_; (refine st rfl ?_; conv => arg 3; whnf)) | (refine n_same rfl ?_; (refine st rfl ?_; conv => arg 3; whnf)) | (refine n_brT ?_ ?_; (focus (simp <;> fail)); (refine st rfl ?_; conv => arg 3; whnf)) | (refine n_brF ?_ ?_; (focus (simp <;> fail)); (refine st rfl ?_; conv => arg 3; whnf))))
      refine n_bytes rfl rfl rfl rfl rfl rfl rfl fun b cap hb => ?_
      (refine st rfl ?_; conv => arg 3; whnf)
      (repeat (first | (refine n_must rfl ?_; (refine st rfl ?_; conv => arg 3; whnf)) | (refine n_chk (drawF_ok (by decide +kernel)) ?_; (refine st rfl ?_; conv => arg 3; whnf)) | (refine n_same rfl ?_; (refine st rfl ?_; conv => arg 3; whnf)) | (refine n_brT ?_ ?_; (focus (simp <;> fail)); (refine st rfl ?_; conv => arg 3; whnf)) | (refine n_brF ?_ ?_; (focus (simp <;> fail)); (refine st rfl ?_; conv => arg 3; whnf))))
      refine n_sameP (.bool (decide (0 ≤ firstBad s))) rfl rfl rfl (fun _ w1 hp1 hI1 => ContainsFunc_ok (hI1.res 0 rfl rfl) (hI1.resLt 0 rfl rfl b (by simp [bytesRes])) (by simp at h2; omega) cap) ?_; (refine st rfl ?_; conv => arg 3; whnf)
      (repeat (first | (refine n_must rfl ?_; (refine st rfl ?_; conv => arg 3; whnf)) | (refine n_chk (drawF_ok (by decide +kernel)) ?_; (refine st rfl ?_; conv => arg 3; whnf)) | (refine n_same rfl ?_; (refine st rfl ?_; conv => arg 3; whnf)) | (refine n_brT ?_ ?_; (focus (simp <;> fail)); (refine st rfl ?_; conv => arg 3; whnf)) | (refine n_brF ?_ ?_; (focus (simp <;> fail)); (refine st rfl ?_; conv => arg 3; whnf))))
      refine n_ret0 rfl rfl fun ids' w' hp hI' => ⟨ret_bool ?_, hI'.frm⟩
      simp only [namedB, h1, Bool.true_and]
      simp at h2 ⊢
      rw [decide_eq_true (show s.size ≤ 16 by omega), ← decide_not]
      exact decide_eq_decide.2 (by omega)
    · (repeat (first | (refine n_must rfl ?_; (refine st rfl ?_; conv => arg 3; whnf)) | (refine n_chk (drawF_ok (by decide +kernel)) ?_; (refine st rfl ?_; conv => arg 3; whnf)) | (refine n_same rfl ?_; (refine st rfl ?_; conv => arg 3; whnf)) | (refine n_brT ?_ ?_; (focus (simp <;> fail)); (refine st rfl ?_; conv => arg 3; whnf)) | (refine n_brF ?_ ?_; (focus (simp <;> fail)); (refine st rfl ?_; conv => arg 3; whnf))))
      refine n_ret0 rfl rfl fun ids' w' hp hI' => ⟨ret_bool ?_, hI'.frm⟩
      simp only [namedB, h1, Bool.true_and]
      simp at h2 ⊢
      omega
  · (repeat (first | (refine n_must rfl ?_; (refine st rfl ?_; conv => arg 3; whnf)) | (refine n_chk (drawF_ok (by decide +kernel)) ?_; (refine st rfl ?_; conv => arg 3; whnf)) | (refine n_same rfl ?_; (refine st rfl ?_; conv => arg 3; whnf)) | (refine n_brT ?_ ?_; (focus (simp <;> fail)); (refine st rfl ?_; conv => arg 3; whnf)) | (refine n_brF ?_ ?_; (focus (simp <;> fail)); (refine st rfl ?_; conv => arg 3; whnf))))
    refine n_ret0 rfl rfl fun ids' w' hp hI' => ⟨ret_bool ?_, hI'.frm⟩
    simp only [namedB, h1, Bool.false_and]

/-! ### right -/
def rightB (k : Int) (s : ByteArray) (a b : Int) : Bool :=
  (if k = 1 then amountB a && decide (0 ≤ b) && decide (b ≤ 1099511627776)
   else if k = 4 then amountB a && amountB b
   else if k = 8 then decide (0 ≤ a) && decide (a ≤ 1099511627776) && amountB b
   else if k = 2 then amountB a && decide (b = 0)
   else if k = 3 then amountB a && decide (b = 0)
   else if k = 10 then amountB a && decide (b = 0)
   else if k = 9 then decide (0 ≤ a) && decide (a ≤ 1099511627776) && decide (b = 0)
   else if k = 5 then decide (1 ≤ a) && decide (b = 0)
   else if k = 6 then decide (1 ≤ a) && decide (b = 0)
   else if k = 12 then decide (1 ≤ a) && decide (b = 0)
   else if k = 7 then decide (a = 0) && decide (b = 0)
   else false) && namedB s
theorem right_ok (k : Int) (s : ByteArray) (a b : Int) (w : World) :
    Calls Try.prog 23 #[.agg #[.int .i64 k, .string s, .int .i64 a, .int .i64 b]] w fun e w' => e = .returned (.bool (rightB k s a b)) ∧ Frm [] w w' := by
  have hI := Inv.nil (P := Try.prog) (N := 96) (S := []) (os := []) w
  refine calls_sm (cx 96 [] [] w) (vals := [.agg [.int .i64 k, .str s, .int .i64 a, .int .i64 b]]) mixed Try.func23 rfl rfl rfl hI rfl (st rfl ?_); conv => arg 3; whnf
  repeat' (first | (refine n_sameP (.bool (amountB _)) rfl rfl rfl (fun _ w1 hp1 hI1 => amount_ok _ w1) ?_; (refine st rfl ?_; conv => arg 3; whnf)) | (refine n_sameP (.bool (namedB s)) rfl rfl rfl (fun _ w1 hp1 hI1 => named_ok s w1) ?_; (refine st rfl ?_; conv => arg 3; whnf)) | (refine n_must rfl ?_; (refine st rfl ?_; conv => arg 3; whnf)) | (refine n_chk (drawF_ok (by decide +kernel)) ?_; (refine st rfl ?_; conv => arg 3; whnf)) | (refine n_same rfl ?_; (refine st rfl ?_; conv => arg 3; whnf)) | (refine n_brT ?_ ?_; (focus (simp [*]; done)); (refine st rfl ?_; conv => arg 3; whnf)) | (refine n_brF ?_ ?_; (focus (simp [*]; done)); (refine st rfl ?_; conv => arg 3; whnf)) | (refine n_br (fun hbr => ?_) (fun hbr => ?_) <;> (try simp at hbr) <;> (refine st rfl ?_; conv => arg 3; whnf)))
  all_goals first | refine n_ret0 rfl rfl fun ids' w' hp hI' => ⟨ret_bool ?_, hI'.frm⟩ | trace_state
  all_goals (simp [rightB, *] <;> (intros; omega))
end Go.Proofs.Yteapjjkgbnnipaa
