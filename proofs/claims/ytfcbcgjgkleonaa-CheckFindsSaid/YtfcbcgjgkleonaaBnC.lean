/- Package atom: names, amounts, right ops. The document's names: sluiceref9.Good. Package atom: what each op does to its counter. Package atom: the map of counters; New, Peek, act. Package atom: Do. -/
import Derived.Test.YtfcbcgjgkleonaaBnX
import Derived.Test.YtfcbcgjgkleonaaChecked
import Derived.StringKeys
namespace Go.Proofs.Ytfcbcgjgkleonaa
section
set_option maxRecDepth 100000
set_option linter.unusedSimpArgs false
set_option linter.unusedVariables false
set_option maxHeartbeats 2000000
open Go.RowKit

theorem mixed : Try.prog.follows .mixedOrders = true := by kernel_rfl
noncomputable abbrev cx (N : Nat) (os : List (Nat × Odr)) (S : List Nat) (w : World) : Ctx := { P := Try.prog, N, os, S, w0 := w }

/-! ### amount -/
def amountB (n : Int) : Bool := decide (1 ≤ n) && decide (n ≤ 1099511627776)
theorem amount_ok (n : Int) (w : World) : Calls Try.prog 71 #[.int .i64 n] w fun e w' => e = .returned (.bool (amountB n)) ∧ Frm [] w w' := by
  have hI := Inv.nil (P := Try.prog) (N := 9) (S := []) (os := []) w
  refine calls_sm (cx 9 [] [] w) (vals := [.int .i64 n]) mixed Try.func71 rfl rfl rfl hI rfl (st rfl ?_); conv => arg 3; whnf
  (repeat' (first | ((first | refine n_must rfl ?_ | refine n_chk (drawF_ok (by decide +kernel)) ?_ | refine n_same rfl ?_); (refine gs ?_)) | (((first | ((first | refine n_must ?_ ?_ | refine n_brT ?_ ?_); (focus (first | (simp; done) | (simp; omega)))) | (refine n_brF ?_ ?_; (focus (first | (simp; done) | (simp; omega)))))); (refine gs ?_)) | (refine n_br (fun hbr => ?_) (fun hbr => ?_) <;> simp at hbr <;> (refine gs ?_))))
  all_goals refine n_ret0 rfl rfl fun ids' w' hp hI' => ⟨ret_bool ?_, hI'.frm⟩
  all_goals (simp [amountB]; try omega)

/-! ### named -/
def badB (b : UInt8) : Bool := decide (b.toNat < 33) || decide (126 < b.toNat)
theorem named1_ok (b : UInt8) (w : World) : Calls Try.prog 82 #[.int .u8 b.toNat] w fun e w' => e = .returned (.bool (badB b)) ∧ Frm [] w w' := by
  have hI := Inv.nil (P := Try.prog) (N := 9) (S := []) (os := []) w
  refine calls_sm (cx 9 [] [] w) (vals := [.int .u8 b.toNat]) mixed Try.func82 rfl rfl rfl hI rfl (st rfl ?_); conv => arg 3; whnf
  (repeat' (first | ((first | refine n_must rfl ?_ | refine n_chk (drawF_ok (by decide +kernel)) ?_ | refine n_same rfl ?_); (refine gs ?_)) | (((first | ((first | refine n_must ?_ ?_ | refine n_brT ?_ ?_); (focus (first | (simp; done) | (simp; omega)))) | (refine n_brF ?_ ?_; (focus (first | (simp; done) | (simp; omega)))))); (refine gs ?_)) | (refine n_br (fun hbr => ?_) (fun hbr => ?_) <;> simp at hbr <;> (refine gs ?_))))
  all_goals refine n_ret0 rfl rfl fun ids' w' hp hI' => ⟨ret_bool ?_, hI'.frm⟩
  all_goals (simp [badB]; try omega)
  have e : decide (b.toNat < 33) = false := by simp; omega
  rw [e, Bool.false_or]
  apply decide_eq_decide.2
  omega

def firstBad (s : ByteArray) : Int := match s.data.toList.findIdx? badB with | some i => i | none => -1

theorem aggByte : aggB Try.prog 5 = some false := by kernel_rfl
theorem IndexFunc_ok {w : World} {a : Addr} {s : ByteArray} (hs : BytesAt w a s) (ha : a.block < w.heap.size) (hsz : s.size ≤ 4611686018427387904) (cap : Nat) :
    Calls Try.prog 83 #[.slice (some a) s.size cap, .func (.func 82) #[] #[]] w fun e w' => e = .returned (.int .i64 (firstBad s)) ∧ Frm [] w w' := by
  have hI := Inv.nil (P := Try.prog) (N := 19) (S := []) (os := []) w
  refine calls_sm (cx 19 [] [] w) (vals := [.raw (.slice (some a) s.size cap), .fn (.func 82) [] []]) mixed Try.func83 rfl rfl rfl hI rfl (st rfl ?_); conv => arg 3; whnf
  refine gg ?_
  have hget : ∀ j (hj : j < s.data.toList.length), s.data.toList.getD j 0 = s.data.toList[j] := fun j hj => by rw [List.getD, List.getElem?_eq_getElem hj]; rfl
  have hlen : s.data.toList.length = s.size := by simp
  refine n_loop (σ := Nat) (fun i => [(0, .raw (.slice (some a) s.size cap)), (1, .fn (.func 82) [] []), (7, .int .i64 (s.size : Nat)), (8, .int .i64 (i : Nat))]) (fun _ => []) (fun i => i ≤ s.size ∧ ∀ j (hj : j < s.data.toList.length), j < i → badB s.data.toList[j] = false) (fun i => s.size - i) 0 mixed ⟨by omega, by intro j _ h; omega⟩ (fun _ _ => rfl) rfl (by (repeat (first | exact trivial | refine ⟨⟨rfl, rfl⟩, ?_⟩))) (fun s _ => ⟨by (repeat (first | exact trivial | refine ⟨⟨_, rfl⟩, ?_⟩)), by (repeat (first | exact trivial | refine ⟨⟨_, rfl⟩, ?_⟩))⟩) fun i hJ => ?_
  obtain ⟨hi, hJ⟩ := hJ
  (refine gs ?_)
  by_cases hlt : i < s.size
  · have hlt' : i < s.data.toList.length := by omega
    have ei : IntKind.i64.wrap ((i : Int) + 1) = ((i + 1 : Nat) : Int) := by rw [w64 (by omega) (by omega)]; simp
    refine gw ?_
    refine n_ld (.int .u8 s.data.toList[i].toNat) rfl rfl (fun w' hf => load_cell aggByte (by have := (hs.frm hf ha) i hlt; rw [hget i hlt'] at this; simpa using this)) ?_
    (refine gs ?_)
    refine gw ?_
    refine n_sameP (.bool (badB s.data.toList[i])) rfl rfl rfl (fun _ w1 hp1 hI1 => named1_ok s.data.toList[i] w1) ?_; (refine gs ?_)
    refine gw ?_
    refine n_br (fun h1 => ?_) (fun h1 => ?_) <;> (refine gs ?_)
    · refine gw ?_
      refine n_leave ?_
      have e : firstBad s = i := by
        unfold firstBad
        rw [List.findIdx?_eq_some_iff_getElem.2 ⟨hlt', h1, fun j hj => by rw [hJ j (by omega) hj]; simp⟩]
      rw [e]
      exact n_ret0 rfl rfl fun ids' w' hp hI' => ⟨rfl, hI'.frm⟩
    · refine gw ?_
      refine n_again ⟨i + 1, ⟨by omega, fun j hj hji => ?_⟩, by omega, (by (repeat (first | exact trivial | refine ⟨⟨rfl, rfl⟩, ?_⟩ | refine ⟨⟨rfl, congrArg (SV.int .i64) ei⟩, ?_⟩))), ⟨_, rfl⟩⟩
      by_cases e : j = i
      · subst e; exact h1
      · exact hJ j hj (by omega)
  · refine gw ?_
    refine n_exit rfl ?_
    (refine gs ?_)
    refine gw ?_
    have e : firstBad s = -1 := by
      unfold firstBad
      rw [List.findIdx?_eq_none_iff.2 fun x hx => ?_]
      obtain ⟨j, hj, rfl⟩ := List.getElem_of_mem hx
      exact hJ j hj (by omega)
    rw [e]
    exact n_ret0 rfl rfl fun ids' w' hp hI' => ⟨rfl, hI'.frm⟩

theorem ContainsFunc_ok {w : World} {a : Addr} {s : ByteArray} (hs : BytesAt w a s) (ha : a.block < w.heap.size) (hsz : s.size ≤ 4611686018427387904) (cap : Nat) :
    Calls Try.prog 81 #[.slice (some a) s.size cap, .func (.func 82) #[] #[]] w fun e w' => e = .returned (.bool (decide (0 ≤ firstBad s))) ∧ Frm [] w w' := by
  have hI := Inv.nil (P := Try.prog) (N := 9) (S := []) (os := []) w
  refine calls_sm (cx 9 [] [] w) (vals := [.raw (.slice (some a) s.size cap), .fn (.func 82) [] []]) mixed Try.func81 rfl rfl rfl hI rfl (st rfl ?_); conv => arg 3; whnf
  refine gg ?_
  refine n_sameP (.int .i64 (firstBad s)) rfl rfl rfl (fun _ w1 hp1 hI1 => IndexFunc_ok (hs.frm hI1.frm ha) (Nat.lt_of_lt_of_le ha hI1.frm.size) hsz cap) ?_; (refine gs ?_)
  refine gg ?_
  exact n_ret0 rfl rfl fun ids' w' hp hI' => ⟨rfl, hI'.frm⟩

def namedB (s : ByteArray) : Bool := !(s.toList == ({ data := #[] } : ByteArray).toList) && decide (s.size ≤ 16) && decide (firstBad s < 0)
theorem named_ok (s : ByteArray) (w : World) : Calls Try.prog 72 #[.string s] w fun e w' => e = .returned (.bool (namedB s)) ∧ Frm [] w w' := by
  have hI := Inv.nil (P := Try.prog) (N := 16) (S := []) (os := []) w
  refine calls_sm (cx 16 [] [] w) (vals := [.str s]) mixed Try.func72 rfl rfl rfl hI rfl (st rfl ?_); conv => arg 3; whnf
  refine gg ?_
  refine n_br (fun h1 => ?_) (fun h1 => ?_) <;> (refine gs ?_)
  · refine gg ?_
    refine n_br (fun h2 => ?_) (fun h2 => ?_) <;> (refine gs ?_)
    · refine gg ?_
      refine n_bytes rfl rfl rfl rfl rfl rfl rfl fun b cap hb => ?_
      (refine gs ?_)
      refine gg ?_
      refine n_sameP (.bool (decide (0 ≤ firstBad s))) rfl rfl rfl (fun _ w1 hp1 hI1 => ContainsFunc_ok (hI1.res 0 rfl rfl) (hI1.resLt 0 rfl rfl b (by simp [bytesRes])) (by simp at h2; omega) cap) ?_; (refine gs ?_)
      refine gg ?_
      refine n_ret0 rfl rfl fun ids' w' hp hI' => ⟨ret_bool ?_, hI'.frm⟩
      simp only [namedB, h1, Bool.true_and]
      simp at h2 ⊢
      rw [decide_eq_true (show s.size ≤ 16 by omega), ← decide_not]
      exact decide_eq_decide.2 (by omega)
    · refine gg ?_
      refine n_ret0 rfl rfl fun ids' w' hp hI' => ⟨ret_bool ?_, hI'.frm⟩
      simp only [namedB, h1, Bool.true_and]
      simp at h2 ⊢
      omega
  · refine gg ?_
    refine n_ret0 rfl rfl fun ids' w' hp hI' => ⟨ret_bool ?_, hI'.frm⟩
    simp only [namedB, h1, Bool.false_and]

/-! ### right -/
def rightB (k : Int) (s : ByteArray) (a b : Int) : Bool :=
  (if k = 1 then amountB a && decide (0 ≤ b) && decide (b ≤ 1099511627776)
   else if k = 4 then amountB a && amountB b
   else if k = 8 then decide (0 ≤ a) && decide (a ≤ 1099511627776) && amountB b
   else if k = 2 then amountB a && decide (b = 0)
   else if k = 3 then amountB a && decide (b = 0)
   else if k = 10 then amountB a && decide (b = 0)
   else if k = 9 then decide (0 ≤ a) && decide (a ≤ 1099511627776) && decide (b = 0)
   else if k = 5 then decide (1 ≤ a) && decide (b = 0)
   else if k = 6 then decide (1 ≤ a) && decide (b = 0)
   else if k = 12 then decide (1 ≤ a) && decide (b = 0)
   else if k = 7 then decide (a = 0) && decide (b = 0)
   else false) && namedB s
theorem right_ok (k : Int) (s : ByteArray) (a b : Int) (w : World) :
    Calls Try.prog 61 #[.agg #[.int .i64 k, .string s, .int .i64 a, .int .i64 b]] w fun e w' => e = .returned (.bool (rightB k s a b)) ∧ Frm [] w w' := by
  have hI := Inv.nil (P := Try.prog) (N := 96) (S := []) (os := []) w
  refine calls_sm (cx 96 [] [] w) (vals := [.agg [.int .i64 k, .str s, .int .i64 a, .int .i64 b]]) mixed Try.func61 rfl rfl rfl hI rfl (st rfl ?_); conv => arg 3; whnf
  repeat' (first | (refine n_sameP (.bool (amountB _)) rfl rfl rfl (fun _ w1 hp1 hI1 => amount_ok _ w1) ?_; (refine gs ?_)) | (refine n_sameP (.bool (namedB s)) rfl rfl rfl (fun _ w1 hp1 hI1 => named_ok s w1) ?_; (refine gs ?_)) | (refine n_must rfl ?_; (refine gs ?_)) | (refine n_chk (drawF_ok (by decide +kernel)) ?_; (refine gs ?_)) | (refine n_same rfl ?_; (refine gs ?_)) | (refine n_brT ?_ ?_; (focus (simp [*]; done)); (refine gs ?_)) | (refine n_brF ?_ ?_; (focus (simp [*]; done)); (refine gs ?_)) | (refine n_br (fun hbr => ?_) (fun hbr => ?_) <;> (try simp at hbr) <;> (refine gs ?_)))
  all_goals first | refine n_ret0 rfl rfl fun ids' w' hp hI' => ⟨ret_bool ?_, hI'.frm⟩ | trace_state
  all_goals (simp [rightB, *] <;> (intros; omega))
end
section
set_option maxRecDepth 100000
set_option linter.unusedSimpArgs false
set_option linter.unusedVariables false
set_option maxHeartbeats 2000000
open Go.RowKit

/-! ### The document's -/
section
variable {N : Nat} {os : List (Nat × Odr)} {S : List Nat} {w0 : World} {Q : SExit → Fr → Mem → List Nat → World → Prop} {ids : List Nat} {fr : Fr} {mem : Mem} {todo : List Task}
/-- s[i]. -/
theorem n_strIndex {o : Oper} {x ix : Operand} {s : ByteArray} {i : Nat} (hi : i < s.data.toList.length) (ho : o.op = .index 9 x ix) (hd : dstOk (cx N os S w0) o.dst = true) (hx : ev fr x = some (.str s)) (hix : ev fr ix = some (.int .i64 (i : Int)))
    (hk : satS (cx N os S w0) Q ⟨putF o.dst (.int .u8 (s.data.toList[i].toNat : Int)) fr, mem, todo⟩ ids) : satN (cx N os S w0) Q (.op o ⟨fr, mem, todo⟩) ids :=
  n_run hd fun ids' w ρ hp hI hρ => by
    have hx' := hρ x _ hx
    have hi' := hρ ix _ hix
    simp only [den, Option.some.injEq] at hx' hi'
    refine ⟨_, w, .int .u8 (s.data.toList[i].toNat : Int), mem, ids', ?_, rfl, List.prefix_refl _, hI, satS_mono hp hk⟩
    have hi2 : i < s.data.size := by simpa using hi
    unfold execOp
    simp only [ho, ← hx', ← hi']
    have hi3 : s[i]? = some s.data[i] := by rw [getElem?_pos s i hi2]; rfl
    simp [Instr.index, asIntOf, run_underlying Try.underlying9, hi3]
end
theorem rGood_ok (s : ByteArray) (w : World) : Calls Try.prog 63 #[.string s] w fun e w' => e = .returned (.bool (namedB s)) ∧ Frm [] w w' := by
  have hI := Inv.nil (P := Try.prog) (N := 28) (S := []) (os := []) w
  have hlen : s.data.toList.length = s.size := by simp
  have hemp : (s.toList == ({ data := #[] } : ByteArray).toList) = decide (s.size = 0) := by
    rw [ByteArray.toList_eq, ByteArray.toList_eq, Bool.eq_iff_iff]
    simp only [beq_iff_eq, decide_eq_true_eq]
    constructor
    · intro h; have := congrArg List.length h; simpa using this
    · intro h; exact List.eq_nil_of_length_eq_zero (by omega)
  refine calls_sm (cx 28 [] [] w) (vals := [.str s]) mixed Try.func63 rfl rfl rfl hI rfl (st rfl ?_); conv => arg 3; whnf
  refine gg ?_
  refine n_br (fun h1 => ?_) (fun h1 => ?_) <;> simp only [decide_eq_true_eq, decide_eq_false_iff_not] at h1 <;> (refine gs ?_)
  · refine gg ?_
    refine n_ret0 rfl rfl fun ids' w' hp hI' => ⟨ret_bool ?_, hI'.frm⟩
    have : s.size = 0 := by omega
    simp only [namedB, hemp, this, decide_true, Bool.not_true, Bool.false_and]
  · refine gg ?_
    refine n_br (fun h2 => ?_) (fun h2 => ?_) <;> simp only [decide_eq_true_eq, decide_eq_false_iff_not] at h2 <;> (refine gs ?_)
    · refine gg ?_
      refine n_ret0 rfl rfl fun ids' w' hp hI' => ⟨ret_bool ?_, hI'.frm⟩
      have : ¬ s.size ≤ 16 := by omega
      simp [namedB, this]
    · refine gg ?_
      have hn0 : ¬ s.size = 0 := by omega
      have hn16 : s.size ≤ 16 := by omega
      refine n_loop (σ := Nat) (fun i => [(0, .str s), (3, .int .i64 (i : Nat))]) (fun _ => []) (fun i => i ≤ s.size ∧ ∀ j (hj : j < s.data.toList.length), j < i → badB s.data.toList[j] = false) (fun i => s.size - i) 0 mixed ⟨by omega, by intro j _ h; omega⟩ (fun _ _ => rfl) rfl (by (repeat (first | exact trivial | refine ⟨⟨rfl, rfl⟩, ?_⟩))) (fun s _ => ⟨by (repeat (first | exact trivial | refine ⟨⟨_, rfl⟩, ?_⟩)), by (repeat (first | exact trivial | refine ⟨⟨_, rfl⟩, ?_⟩))⟩) fun i hJ => ?_
      obtain ⟨hi, hJ⟩ := hJ
      (refine gs ?_)
      by_cases hlt : i < s.size
      · have hlt' : i < s.data.toList.length := by omega
        have ei : IntKind.i64.wrap ((i : Int) + 1) = ((i + 1 : Nat) : Int) := by rw [w64 (by omega) (by omega)]; simp
        refine gw ?_
        refine n_strIndex hlt' rfl rfl rfl rfl ?_
        (refine gs ?_)
        refine gg ?_
        have hbad : badB s.data.toList[i] = true → namedB s = false := by
          intro h
          have e : firstBad s = i := by
            unfold firstBad
            rw [List.findIdx?_eq_some_iff_getElem.2 ⟨hlt', h, fun j hj => by rw [hJ j (by omega) hj]; simp⟩]
          simp [namedB, e]
        generalize hb : s.data.toList[i] = b at hbad
        refine n_br (fun h3 => ?_) (fun h3 => ?_) <;> simp only [decide_eq_true_eq, decide_eq_false_iff_not] at h3 <;> (refine gs ?_)
        · refine gg ?_
          refine n_leave ?_
          rw [hbad (by simp [badB]; omega)]
          exact n_ret0 rfl rfl fun ids' w' hp hI' => ⟨rfl, hI'.frm⟩
        · refine gg ?_
          refine n_strIndex hlt' rfl rfl rfl rfl ?_
          (refine gs ?_)
          refine gg ?_
          rw [hb]
          refine n_br (fun h4 => ?_) (fun h4 => ?_) <;> simp only [decide_eq_true_eq, decide_eq_false_iff_not] at h4 <;> (refine gs ?_)
          · refine gg ?_
            refine n_leave ?_
            rw [hbad (by simp [badB]; omega)]
            exact n_ret0 rfl rfl fun ids' w' hp hI' => ⟨rfl, hI'.frm⟩
          · refine gg ?_
            refine n_again ⟨i + 1, ⟨by omega, fun j hj hji => ?_⟩, by omega, (by (repeat (first | exact trivial | refine ⟨⟨rfl, rfl⟩, ?_⟩ | refine ⟨⟨rfl, congrArg (SV.int .i64) ei⟩, ?_⟩))), ⟨_, rfl⟩⟩
            by_cases e : j = i
            · subst e; rw [hb]; simp [badB]; omega
            · exact hJ j hj (by omega)
      · refine gw ?_
        refine n_exit rfl ?_
        (refine gs ?_)
        refine gw ?_
        have e : firstBad s = -1 := by
          unfold firstBad
          rw [List.findIdx?_eq_none_iff.2 fun x hx => ?_]
          obtain ⟨j, hj, rfl⟩ := List.getElem_of_mem hx
          exact hJ j hj (by omega)
        have e2 : namedB s = true := by rw [namedB, hemp, e, decide_eq_false hn0, decide_eq_true hn16]; rfl
        rw [e2]
        exact n_ret0 rfl rfl fun ids' w' hp hI' => ⟨rfl, hI'.frm⟩
end
section
set_option maxRecDepth 100000
set_option linter.unusedSimpArgs false
set_option linter.unusedVariables false
set_option maxHeartbeats 2000000
open Go.RowKit
open Go.Maps (Keyed)

/-- A counter; hb: the block of its holds. -/
structure Ctr where
  limit : Int
  value : Int
  held : Int
  hb : Nat
  holds : List (Int × Int)
abbrev Ctr.cells (s : Ctr) : Array Value := #[.int .i64 s.limit, .int .i64 s.value, .int .i64 s.held, .map (some s.hb)]
abbrev Ctr.sv (s : Ctr) : List SV := [.int .i64 s.limit, .int .i64 s.value, .int .i64 s.held, .raw (.map (some s.hb))]
def Ctr.sum (l : List (Int × Int)) : Int := (l.map (·.2)).sum
structure Ctr.ok (s : Ctr) : Prop where
  v0 : 0 ≤ s.value
  h0 : 0 ≤ s.held
  sum : s.value + s.held ≤ s.limit
  cap : s.limit ≤ 1099511627776
  all : ∀ p ∈ s.holds, 0 ≤ p.2
  held : s.held = Ctr.sum s.holds

abbrev i64 (x : Int) : Prop := -9223372036854775808 ≤ x ∧ x ≤ 9223372036854775807
theorem wf_of_i64 {x : Int} (h : i64 x) : (Lit.int .i64 x).wf = true := by
  simp [Lit.wf]
  have e1 : IntKind.i64.min = -9223372036854775808 := by decide
  have e2 : IntKind.i64.max = 9223372036854775807 := by decide
  omega
def intE : KeyEnc Try.prog 3 Int := intEnc Try.prog 3 .i64 (by kernel_rfl)
theorem intK : Keyed Try.prog 3 := Go.Maps.int_keyed (q := .i64) (by kernel_rfl)
abbrev intV (n : Int) : Value := .int .i64 n
/-- The part: one map of holds. -/
def holdsRes (hb : Nat) (m : List (Int × Int)) : Res where
  fp := [hb]
  R w := MapOf intE intV w hb m
  stable := fun w w' hk h => h.keep (hk hb (by simp))

def Ctr.inc (s : Ctr) (by_ : Int) : Ctr × Int × Int := if s.value + by_ < 0 then (s, 0, 60) else if s.limit < s.value + by_ + s.held then (s, 0, 60) else ({ s with value := s.value + by_ }, 0, 0)
def Ctr.hold (s : Ctr) (a h : Int) : Ctr × Int × Int := if s.value < a then (s, 0, 60) else if (mget s.holds h).isSome then (s, 0, 1) else if h < 1 then (s, 0, 1) else ({ s with value := s.value - a, held := s.held + a, holds := mput s.holds h a }, h, 0)
def Ctr.had (s : Ctr) (a : Int) : Int := (mget s.holds a).getD 0
def Ctr.end_ (s : Ctr) (k a : Int) : Ctr × Int × Int := if s.had a = 0 then (s, 0, 70) else ({ s with holds := mput s.holds a 0, held := s.held - s.had a, value := if k = 5 then s.value else s.value + s.had a }, if k = 12 then 0 else s.had a, 0)
def Ctr.take (s : Ctr) (a b : Int) : Ctr × Int × Int := if s.value ≠ a then (s, 0, 110) else if s.value < b then (s, 0, 60) else ({ s with value := s.value - b }, a, 0)
def Ctr.reset (s : Ctr) (a : Int) : Ctr × Int × Int := if s.limit < a + s.held then (s, 0, 61) else ({ s with value := a }, a, 0)
def Ctr.recap (s : Ctr) (a : Int) : Ctr × Int × Int := if a < s.value + s.held then (s, 0, 61) else ({ s with limit := a }, a, 0)

abbrev opV (k : Int) (s : ByteArray) (a b : Int) : Array Value := #[.int .i64 k, .string s, .int .i64 a, .int .i64 b]
abbrev opS (k : Int) (s : ByteArray) (a b : Int) : List SV := [.int .i64 k, .str s, .int .i64 a, .int .i64 b]
abbrev ansV (n e : Int) : Value := .tuple #[.int .i64 n, .int .i64 e]
abbrev ansS (n e : Int) : SV := .tup [.int .i64 n, .int .i64 e]
abbrev pV (b : Nat) : Value := .pointer (some ⟨b, 0, none⟩)
abbrev mvV : Value := .func (.func 73) #[] #[]
abbrev mvS : SV := .fn (.func 73) [] []

/-! ### The closures -/
theorem move_ok {cb : Nat} {w : World} (s : Ctr) (v h : Int) (hv : i64 (s.value + v)) (hh : i64 (s.held + h)) (hb : Blk w cb s.cells 125) :
    Calls Try.prog 73 #[pV cb, .int .i64 v, .int .i64 h] w fun e w' => e = .returned (.tuple #[]) ∧ Frm [cb] w w' ∧ Blk w' cb { s with value := s.value + v, held := s.held + h : Ctr }.cells 125 := by
  have hI : Inv (cx 24 [] [cb] w) w [cb] [⟨125, s.sv, true⟩] := (Inv.nil w).cons (by simp) rfl hb (by simp)
  refine calls_sm (cx 24 [] [cb] w) (vals := [.ptr 0 0, .int .i64 v, .int .i64 h]) mixed Try.func73 rfl rfl rfl hI rfl (st rfl ?_); conv => arg 3; whnf
  refine gg ?_
  refine n_end0 rfl rfl fun ids' w' hp hI' => ⟨rfl, hI'.frm, ?_⟩
  have hB := (hI'.blk_at hp 0 rfl rfl rfl)
  rw [w64 hv.1 hv.2, w64 hh.1 hh.2] at hB
  exact hB

theorem inc_ok {cb bb vb : Nat} {w : World} (s : Ctr) (ok : s.ok) (by_ : Int) (h1 : -1099511627776 ≤ by_ ∧ by_ ≤ 1099511627776) (hb : Blk w cb s.cells 125) (h2 : Blk w bb #[.int .i64 by_] 3) (h3 : Blk w vb #[mvV] 141) (n1 : bb ≠ cb) (n2 : vb ≠ cb) (n3 : vb ≠ bb) :
    Calls Try.prog 74 #[pV cb, pV bb, pV vb] w fun e w' => e = .returned (ansV (s.inc by_).2.1 (s.inc by_).2.2) ∧ Frm [cb] w w' ∧ Blk w' cb (s.inc by_).1.cells 125 := by
  obtain ⟨v0, h0, sum, cap, _, _⟩ := ok
  have hI : Inv (cx 35 [] [cb] w) w [cb, bb, vb] [⟨125, s.sv, true⟩, ⟨3, [.int .i64 by_], false⟩, ⟨141, [mvS], false⟩] :=
    (((Inv.nil w).cons (by simp) rfl hb (by simp)).cons (by simp [n1]) rfl h2 (by simp)).cons (by simp [n2, n3]) rfl h3 (by simp)
  refine calls_sm (cx 35 [] [cb] w) (vals := [.ptr 0 0, .ptr 1 0, .ptr 2 0]) mixed Try.func74 rfl rfl rfl hI rfl (st rfl ?_); conv => arg 3; whnf
  have e1 : IntKind.i64.wrap (s.value + by_) = s.value + by_ := w64 (by omega) (by omega)
  have e2 : IntKind.i64.wrap (s.value + by_ + s.held) = s.value + by_ + s.held := w64 (by omega) (by omega)
  refine gg ?_
  refine n_br (fun hb1 => ?_) (fun hb1 => ?_) <;> rw [e1] at hb1 <;> simp only [decide_eq_true_eq, decide_eq_false_iff_not] at hb1 <;> (refine gs ?_)
  · refine gg ?_
    have e : s.inc by_ = (s, 0, 60) := by simp [Ctr.inc, hb1]
    rw [e]
    exact n_ret0 rfl rfl fun ids' w' hp hI' => ⟨rfl, hI'.frm, (hI'.blk_at hp 0 rfl rfl rfl)⟩
  · refine gg ?_
    refine n_br (fun hb2 => ?_) (fun hb2 => ?_) <;> rw [e1, e2] at hb2 <;> simp only [decide_eq_true_eq, decide_eq_false_iff_not] at hb2 <;> (refine gs ?_)
    · refine gg ?_
      have e : s.inc by_ = (s, 0, 60) := by rw [Ctr.inc, if_neg hb1, if_pos (by omega)]
      rw [e]
      exact n_ret0 rfl rfl fun ids' w' hp hI' => ⟨rfl, hI'.frm, (hI'.blk_at hp 0 rfl rfl rfl)⟩
    · refine gg ?_
      refine n_updP 0 (.tup []) (Ctr.sv { s with value := s.value + by_, held := s.held + 0 }) rfl rfl rfl rfl rfl rfl rfl (fun _ w1 hp1 hI1 => move_ok s by_ 0 ⟨by omega, by omega⟩ ⟨by omega, by omega⟩ (hI1.blk_at hp1 0 rfl rfl rfl)) ?_; (refine gs ?_)
      refine gg ?_
      have e : s.inc by_ = ({ s with value := s.value + by_ }, 0, 0) := by rw [Ctr.inc, if_neg hb1, if_neg (by omega)]
      rw [e]
      refine n_ret0 rfl rfl fun ids' w' hp hI' => ⟨rfl, hI'.frm, ?_⟩
      have hB := (hI'.blk_at hp 0 rfl rfl rfl)
      simp only [Int.add_zero] at hB
      exact hB

theorem take_ok {cb ob vb : Nat} {w : World} (s : Ctr) (ok : s.ok) (k : Int) (nm : ByteArray) (a b : Int) (h1 : 0 ≤ b ∧ b ≤ 1099511627776) (hb : Blk w cb s.cells 125) (h2 : Blk w ob (opV k nm a b) 50) (h3 : Blk w vb #[mvV] 141) (n1 : ob ≠ cb) (n2 : vb ≠ cb) (n3 : vb ≠ ob) :
    Calls Try.prog 77 #[pV cb, pV ob, pV vb] w fun e w' => e = .returned (ansV (s.take a b).2.1 (s.take a b).2.2) ∧ Frm [cb] w w' ∧ Blk w' cb (s.take a b).1.cells 125 := by
  obtain ⟨v0, h0, sum, cap, _, _⟩ := ok
  have hI : Inv (cx 28 [] [cb] w) w [cb, ob, vb] [⟨125, s.sv, true⟩, ⟨50, opS k nm a b, false⟩, ⟨141, [mvS], false⟩] :=
    (((Inv.nil w).cons (by simp) rfl hb (by simp)).cons (by simp [n1]) rfl h2 (by simp)).cons (by simp [n2, n3]) rfl h3 (by simp)
  refine calls_sm (cx 28 [] [cb] w) (vals := [.ptr 0 0, .ptr 1 0, .ptr 2 0]) mixed Try.func77 rfl rfl rfl hI rfl (st rfl ?_); conv => arg 3; whnf
  have e1 : IntKind.i64.wrap (0 - b) = -b := by rw [w64 (by omega) (by omega)]; omega
  refine gg ?_
  refine n_br (fun hb1 => ?_) (fun hb1 => ?_) <;> simp at hb1 <;> (refine gs ?_)
  · refine gg ?_
    have e : s.take a b = (s, 0, 110) := by simp [Ctr.take, hb1]
    rw [e]
    exact n_ret0 rfl rfl fun ids' w' hp hI' => ⟨rfl, hI'.frm, (hI'.blk_at hp 0 rfl rfl rfl)⟩
  · refine gg ?_
    refine n_br (fun hb2 => ?_) (fun hb2 => ?_) <;> simp at hb2 <;> (refine gs ?_)
    · refine gg ?_
      have e : s.take a b = (s, 0, 60) := by rw [Ctr.take, if_neg (by simpa using hb1), if_pos hb2]
      rw [e]
      exact n_ret0 rfl rfl fun ids' w' hp hI' => ⟨rfl, hI'.frm, (hI'.blk_at hp 0 rfl rfl rfl)⟩
    · refine gg ?_
      refine n_updP 0 (.tup []) (Ctr.sv { s with value := s.value + -b, held := s.held + 0 }) rfl rfl rfl rfl rfl rfl rfl (fun _ w1 hp1 hI1 => by rw [e1]; exact move_ok s (-b) 0 ⟨by omega, by omega⟩ ⟨by omega, by omega⟩ (hI1.blk_at hp1 0 rfl rfl rfl)) ?_; (refine gs ?_)
      refine gg ?_
      have e : s.take a b = ({ s with value := s.value - b }, a, 0) := by rw [Ctr.take, if_neg (by simpa using hb1), if_neg (by omega)]
      rw [e]
      refine n_ret0 rfl rfl fun ids' w' hp hI' => ⟨rfl, hI'.frm, ?_⟩
      have hB := (hI'.blk_at hp 0 rfl rfl rfl)
      simp only [Int.add_zero, ← Int.sub_eq_add_neg] at hB
      exact hB

theorem reset_ok {cb ob : Nat} {w : World} (s : Ctr) (ok : s.ok) (k : Int) (nm : ByteArray) (a b : Int) (h1 : 0 ≤ a ∧ a ≤ 1099511627776) (hb : Blk w cb s.cells 125) (h2 : Blk w ob (opV k nm a b) 50) (n1 : ob ≠ cb) :
    Calls Try.prog 78 #[pV cb, pV ob] w fun e w' => e = .returned (ansV (s.reset a).2.1 (s.reset a).2.2) ∧ Frm [cb] w w' ∧ Blk w' cb (s.reset a).1.cells 125 := by
  obtain ⟨v0, h0, sum, cap, _, _⟩ := ok
  have hI : Inv (cx 24 [] [cb] w) w [cb, ob] [⟨125, s.sv, true⟩, ⟨50, opS k nm a b, false⟩] :=
    ((Inv.nil w).cons (by simp) rfl hb (by simp)).cons (by simp [n1]) rfl h2 (by simp)
  refine calls_sm (cx 24 [] [cb] w) (vals := [.ptr 0 0, .ptr 1 0]) mixed Try.func78 rfl rfl rfl hI rfl (st rfl ?_); conv => arg 3; whnf
  have e1 : IntKind.i64.wrap (a + s.held) = a + s.held := w64 (by omega) (by omega)
  refine gg ?_
  refine n_br (fun hb1 => ?_) (fun hb1 => ?_) <;> rw [e1] at hb1 <;> simp only [decide_eq_true_eq, decide_eq_false_iff_not] at hb1 <;> (refine gs ?_)
  · refine gg ?_
    have e : s.reset a = (s, 0, 61) := by rw [Ctr.reset, if_pos (by omega)]
    rw [e]
    exact n_ret0 rfl rfl fun ids' w' hp hI' => ⟨rfl, hI'.frm, (hI'.blk_at hp 0 rfl rfl rfl)⟩
  · refine gg ?_
    have e : s.reset a = ({ s with value := a }, a, 0) := by rw [Ctr.reset, if_neg (by omega)]
    rw [e]
    exact n_ret0 rfl rfl fun ids' w' hp hI' => ⟨rfl, hI'.frm, (hI'.blk_at hp 0 rfl rfl rfl)⟩

theorem recap_ok {cb ob : Nat} {w : World} (s : Ctr) (ok : s.ok) (k : Int) (nm : ByteArray) (a b : Int) (hb : Blk w cb s.cells 125) (h2 : Blk w ob (opV k nm a b) 50) (n1 : ob ≠ cb) :
    Calls Try.prog 79 #[pV cb, pV ob] w fun e w' => e = .returned (ansV (s.recap a).2.1 (s.recap a).2.2) ∧ Frm [cb] w w' ∧ Blk w' cb (s.recap a).1.cells 125 := by
  obtain ⟨v0, h0, sum, cap, _, _⟩ := ok
  have hI : Inv (cx 24 [] [cb] w) w [cb, ob] [⟨125, s.sv, true⟩, ⟨50, opS k nm a b, false⟩] :=
    ((Inv.nil w).cons (by simp) rfl hb (by simp)).cons (by simp [n1]) rfl h2 (by simp)
  refine calls_sm (cx 24 [] [cb] w) (vals := [.ptr 0 0, .ptr 1 0]) mixed Try.func79 rfl rfl rfl hI rfl (st rfl ?_); conv => arg 3; whnf
  have e1 : IntKind.i64.wrap (s.value + s.held) = s.value + s.held := w64 (by omega) (by omega)
  refine gg ?_
  refine n_br (fun hb1 => ?_) (fun hb1 => ?_) <;> rw [e1] at hb1 <;> simp only [decide_eq_true_eq, decide_eq_false_iff_not] at hb1 <;> (refine gs ?_)
  · refine gg ?_
    have e : s.recap a = (s, 0, 61) := by rw [Ctr.recap, if_pos (by omega)]
    rw [e]
    exact n_ret0 rfl rfl fun ids' w' hp hI' => ⟨rfl, hI'.frm, (hI'.blk_at hp 0 rfl rfl rfl)⟩
  · refine gg ?_
    have e : s.recap a = ({ s with limit := a }, a, 0) := by rw [Ctr.recap, if_neg (by omega)]
    rw [e]
    exact n_ret0 rfl rfl fun ids' w' hp hI' => ⟨rfl, hI'.frm, (hI'.blk_at hp 0 rfl rfl rfl)⟩

theorem read_ok {cb : Nat} {w : World} (s : Ctr) (hb : Blk w cb s.cells 125) :
    Calls Try.prog 80 #[pV cb] w fun e w' => e = .returned (ansV s.value 0) ∧ Frm [cb] w w' ∧ Blk w' cb s.cells 125 := by
  have hI : Inv (cx 8 [] [cb] w) w [cb] [⟨125, s.sv, true⟩] := (Inv.nil w).cons (by simp) rfl hb (by simp)
  refine calls_sm (cx 8 [] [cb] w) (vals := [.ptr 0 0]) mixed Try.func80 rfl rfl rfl hI rfl (st rfl ?_); conv => arg 3; whnf
  refine gg ?_
  exact n_ret0 rfl rfl fun ids' w' hp hI' => ⟨rfl, hI'.frm, (hI'.blk_at hp 0 rfl rfl rfl)⟩

/-! ### The closures that see holds -/
theorem hold_ok {cb ob xb vb : Nat} {w : World} (s : Ctr) (ok : s.ok) (k : Int) (nm : ByteArray) (a b h : Int) (hi : i64 h) (h1 : 0 ≤ a ∧ a ≤ 1099511627776) (hb : Blk w cb s.cells 125) (h2 : Blk w ob (opV k nm a b) 50) (h4 : Blk w xb #[.int .i64 h] 3) (h3 : Blk w vb #[mvV] 141)
    (hm : MapOf intE intV w s.hb s.holds) (n1 : ob ≠ cb) (n2 : xb ≠ cb) (n3 : xb ≠ ob) (n4 : vb ≠ cb) (n5 : vb ≠ ob) (n6 : vb ≠ xb) (n7 : s.hb ≠ cb) (n8 : s.hb ≠ ob) (n9 : s.hb ≠ xb) (n10 : s.hb ≠ vb) :
    Calls Try.prog 75 #[pV cb, pV ob, pV xb, pV vb] w fun e w' => e = .returned (ansV (s.hold a h).2.1 (s.hold a h).2.2) ∧ Frm [cb, s.hb] w w' ∧ Blk w' cb (s.hold a h).1.cells 125 ∧ MapOf intE intV w' s.hb (s.hold a h).1.holds := by
  obtain ⟨v0, h0, sum, cap, _, _⟩ := ok
  have hI : Inv (cx 46 [] [cb, s.hb] w) w [cb, ob, xb, vb, 0] [⟨125, s.sv, true⟩, ⟨50, opS k nm a b, false⟩, ⟨3, [.int .i64 h], false⟩, ⟨141, [mvS], false⟩, ⟨123, [.res (holdsRes s.hb s.holds)], true⟩] :=
    (((((Inv.nil w).cons (by simp) rfl hb (by simp)).cons (by simp [n1]) rfl h2 (by simp)).cons (by simp [n2, n3]) rfl h4 (by simp)).cons (by simp [n4, n5, n6]) rfl h3 (by simp)).consR (by simp [holdsRes, n7, n8, n9, n10]) hm (by simp [holdsRes, hm.lt]) (by simp [holdsRes])
  refine calls_sm (cx 46 [] [cb, s.hb] w) (vals := [.ptr 0 0, .ptr 1 0, .ptr 2 0, .ptr 3 0]) mixed Try.func75 rfl rfl rfl hI rfl (st rfl ?_); conv => arg 3; whnf
  have e1 : IntKind.i64.wrap (0 - a) = -a := by rw [w64 (by omega) (by omega)]; omega
  refine gg ?_
  refine n_br (fun hb1 => ?_) (fun hb1 => ?_) <;> simp at hb1 <;> (refine gs ?_)
  · refine gg ?_
    have e : s.hold a h = (s, 0, 60) := by simp [Ctr.hold, hb1]
    rw [e]
    exact n_ret0 rfl rfl fun ids' w' hp hI' => ⟨rfl, hI'.frm, (hI'.blk_at hp 0 rfl rfl rfl), hI'.res 4 rfl rfl⟩
  · refine gg ?_
    refine n_lookup (E := intE) (ev' := intV) (b := s.hb) (kr := .int .i64 h) (zr := .int .i64 0) (z := .int .i64 0) s.holds h (.tup [.int .i64 ((mget s.holds h).getD 0), .bool (mget s.holds h).isSome]) intK rfl rfl rfl rfl rfl rfl (wf_of_i64 hi) rfl rfl (by cases mget s.holds h <;> rfl) (fun _ w1 _ hI1 => by exact hI1.res 4 rfl rfl) ?_
    (refine gs ?_)
    refine gg ?_
    have eh : ∀ hs : ((mget s.holds h).isSome || decide (h < 1)) = true, s.hold a h = (s, 0, 1) := by
      intro hs
      rw [Ctr.hold, if_neg (by omega)]
      simp at hs
      rcases hs with hs | hs
      · rw [if_pos hs]
      · split
        · rfl
        · first | rfl | rw [if_pos hs]
    refine n_br (fun hb2 => ?_) (fun hb2 => ?_) <;> (refine gs ?_)
    · refine gg ?_
      rw [eh (by simp [hb2])]
      exact n_ret0 rfl rfl fun ids' w' hp hI' => ⟨rfl, hI'.frm, (hI'.blk_at hp 0 rfl rfl rfl), hI'.res 4 rfl rfl⟩
    · refine gg ?_
      refine n_br (fun hb3 => ?_) (fun hb3 => ?_) <;> simp at hb3 <;> (refine gs ?_)
      · refine gg ?_
        rw [eh (by simp [hb3])]
        exact n_ret0 rfl rfl fun ids' w' hp hI' => ⟨rfl, hI'.frm, (hI'.blk_at hp 0 rfl rfl rfl), hI'.res 4 rfl rfl⟩
      · refine gg ?_
        refine n_updP 0 (.tup []) (Ctr.sv { s with value := s.value + -a, held := s.held + a }) rfl rfl rfl rfl rfl rfl rfl (fun _ w1 hp1 hI1 => by rw [e1]; exact move_ok s (-a) a ⟨by omega, by omega⟩ ⟨by omega, by omega⟩ (hI1.blk_at hp1 0 rfl rfl rfl)) ?_; (refine gs ?_)
        refine gg ?_
        refine n_mapUpdate (E := intE) (ev' := intV) (i := 4) (b := s.hb) (kr := .int .i64 h) (vr := .int .i64 a) (ρ := holdsRes s.hb s.holds) (holdsRes s.hb (mput s.holds h a)) s.holds h a intK rfl rfl rfl rfl rfl rfl (wf_of_i64 hi) rfl rfl rfl rfl rfl (by simp [holdsRes]) rfl (fun _ _ _ _ h => by exact h) (fun _ _ _ _ _ _ _ h => by exact h) ?_
        (refine gs ?_)
        refine gg ?_
        have e : s.hold a h = ({ s with value := s.value - a, held := s.held + a, holds := mput s.holds h a }, h, 0) := by
          rw [Ctr.hold, if_neg (by omega), if_neg (by simp [hb2]), if_neg (by omega)]
        rw [e]
        refine n_ret0 rfl rfl fun ids' w' hp hI' => ⟨rfl, hI'.frm, ?_, hI'.res 4 rfl rfl⟩
        have hB := (hI'.blk_at hp 0 rfl rfl rfl)
        simp only [← Int.sub_eq_add_neg] at hB
        exact hB

theorem had_le {l : List (Int × Int)} (hl : ∀ p ∈ l, 0 ≤ p.2) (x : Int) : 0 ≤ (mget l x).getD 0 ∧ (mget l x).getD 0 ≤ Ctr.sum l := by
  have hs : ∀ l : List (Int × Int), (∀ p ∈ l, 0 ≤ p.2) → 0 ≤ Ctr.sum l := by
    intro l
    induction l with
    | nil => intro _; simp [Ctr.sum]
    | cons p l ih =>
      intro h
      have := ih fun q hq => h q (by simp [hq])
      have := h p (by simp)
      simp [Ctr.sum] at *; omega
  induction l with
  | nil => simp [mget, Ctr.sum]
  | cons p l ih =>
    have h1 := ih fun q hq => hl q (by simp [hq])
    have h2 := hl p (by simp)
    have h3 := hs l fun q hq => hl q (by simp [hq])
    obtain ⟨y, n⟩ := p
    simp only [mget]
    split
    · simp [Ctr.sum] at *; omega
    · simp [Ctr.sum] at *; omega

theorem end_ok {cb ob vb : Nat} {w : World} (s : Ctr) (ok : s.ok) (k : Int) (nm : ByteArray) (a b : Int) (hi : i64 a) (hb : Blk w cb s.cells 125) (h2 : Blk w ob (opV k nm a b) 50) (h3 : Blk w vb #[mvV] 141)
    (hm : MapOf intE intV w s.hb s.holds) (n1 : ob ≠ cb) (n4 : vb ≠ cb) (n5 : vb ≠ ob) (n7 : s.hb ≠ cb) (n8 : s.hb ≠ ob) (n10 : s.hb ≠ vb) :
    Calls Try.prog 76 #[pV cb, pV ob, pV vb] w fun e w' => e = .returned (ansV (s.end_ k a).2.1 (s.end_ k a).2.2) ∧ Frm [cb, s.hb] w w' ∧ Blk w' cb (s.end_ k a).1.cells 125 ∧ MapOf intE intV w' s.hb (s.end_ k a).1.holds := by
  have hhad := had_le ok.all a
  rw [← ok.held] at hhad
  obtain ⟨v0, h0, sum, cap, _, _⟩ := ok
  have hI : Inv (cx 38 [] [cb, s.hb] w) w [cb, ob, vb, 0] [⟨125, s.sv, true⟩, ⟨50, opS k nm a b, false⟩, ⟨141, [mvS], false⟩, ⟨123, [.res (holdsRes s.hb s.holds)], true⟩] :=
    ((((Inv.nil w).cons (by simp) rfl hb (by simp)).cons (by simp [n1]) rfl h2 (by simp)).cons (by simp [n4, n5]) rfl h3 (by simp)).consR (by simp [holdsRes, n7, n8, n10]) hm (by simp [holdsRes, hm.lt]) (by simp [holdsRes])
  change 0 ≤ s.had a ∧ s.had a ≤ s.held at hhad
  refine calls_sm (cx 38 [] [cb, s.hb] w) (vals := [.ptr 0 0, .ptr 1 0, .ptr 2 0]) mixed Try.func76 rfl rfl rfl hI rfl (st rfl ?_); conv => arg 3; whnf
  refine gg ?_
  refine n_lookup (E := intE) (ev' := intV) (b := s.hb) (kr := .int .i64 a) (zr := .int .i64 0) (z := .int .i64 0) s.holds a (.int .i64 (s.had a)) intK rfl rfl rfl rfl rfl rfl (wf_of_i64 hi) rfl rfl (by unfold Ctr.had; cases mget s.holds a <;> rfl) (fun _ w1 _ hI1 => by exact hI1.res 3 rfl rfl) ?_
  generalize hn : s.had a = n at hhad
  (refine gs ?_)
  have e1 : IntKind.i64.wrap (0 - n) = -n := by rw [w64 (by omega) (by omega)]; omega
  refine gg ?_
  refine n_br (fun hb1 => ?_) (fun hb1 => ?_) <;> simp at hb1 <;> (refine gs ?_)
  · refine gg ?_
    have e : s.end_ k a = (s, 0, 70) := by rw [Ctr.end_, hn, if_pos hb1]
    rw [e]
    exact n_ret0 rfl rfl fun ids' w' hp hI' => ⟨rfl, hI'.frm, (hI'.blk_at hp 0 rfl rfl rfl), hI'.res 3 rfl rfl⟩
  · refine gg ?_
    refine n_mapUpdate (E := intE) (ev' := intV) (i := 3) (b := s.hb) (kr := .int .i64 a) (vr := .int .i64 0) (ρ := holdsRes s.hb s.holds) (holdsRes s.hb (mput s.holds a 0)) s.holds a 0 intK rfl rfl rfl rfl rfl rfl (wf_of_i64 hi) rfl rfl rfl rfl rfl (by simp [holdsRes]) rfl (fun _ _ _ _ h => by exact h) (fun _ _ _ _ _ _ _ h => by exact h) ?_
    (refine gs ?_)
    refine gg ?_
    refine n_updP 0 (.tup []) (Ctr.sv { s with value := s.value + 0, held := s.held + -n }) rfl rfl rfl rfl rfl rfl rfl (fun _ w1 hp1 hI1 => by rw [e1]; exact move_ok s 0 (-n) ⟨by omega, by omega⟩ ⟨by omega, by omega⟩ (hI1.blk_at hp1 0 rfl rfl rfl)) ?_; (refine gs ?_)
    refine gg ?_
    have ee : s.end_ k a = ({ s with holds := mput s.holds a 0, held := s.held - n, value := if k = 5 then s.value else s.value + n }, if k = 12 then 0 else n, 0) := by rw [Ctr.end_, hn, if_neg hb1]
    rw [ee]
    refine n_br (fun hb2 => ?_) (fun hb2 => ?_) <;> simp at hb2 <;> (refine gs ?_)
    · rw [if_neg hb2]
      refine gg ?_
      refine n_updP 0 (.tup []) (Ctr.sv { s with value := s.value + 0 + n, held := s.held + -n + 0 }) rfl rfl rfl rfl rfl rfl rfl (fun _ w1 hp1 hI1 => move_ok { s with value := s.value + 0, held := s.held + -n } n 0 ⟨by dsimp only; omega, by dsimp only; omega⟩ ⟨by dsimp only; omega, by dsimp only; omega⟩ (hI1.blk_at hp1 0 rfl rfl rfl)) ?_; (refine gs ?_)
      refine gg ?_
      refine n_br (fun hb3 => ?_) (fun hb3 => ?_) <;> simp at hb3 <;> (refine gs ?_)
      · refine gg ?_
        rw [if_pos hb3]
        refine n_ret0 rfl rfl fun ids' w' hp hI' => ⟨rfl, hI'.frm, ?_, hI'.res 3 rfl rfl⟩
        have hB := (hI'.blk_at hp 0 rfl rfl rfl)
        simp only [Int.add_zero, ← Int.sub_eq_add_neg] at hB
        exact hB
      · refine gg ?_
        rw [if_neg hb3]
        refine n_ret0 rfl rfl fun ids' w' hp hI' => ⟨rfl, hI'.frm, ?_, hI'.res 3 rfl rfl⟩
        have hB := (hI'.blk_at hp 0 rfl rfl rfl)
        simp only [Int.add_zero, ← Int.sub_eq_add_neg] at hB
        exact hB
    · subst hb2
      rw [if_pos rfl, if_neg (by decide)]
      refine gg ?_
      refine n_ret0 rfl rfl fun ids' w' hp hI' => ⟨rfl, hI'.frm, ?_, hI'.res 3 rfl rfl⟩
      have hB := (hI'.blk_at hp 0 rfl rfl rfl)
      simp only [Int.add_zero, ← Int.sub_eq_add_neg] at hB
      exact hB
end
section
set_option maxRecDepth 100000
set_option linter.unusedSimpArgs false
set_option linter.unusedVariables false
set_option maxHeartbeats 2000000
open Go.RowKit
open Go.Maps (Keyed)

def strE : KeyEnc Try.prog 9 ByteArray := strEnc Try.prog 9 (by kernel_rfl)
theorem strK : Keyed Try.prog 9 := Keyed.of_law (Go.WideMaps.string_law (by kernel_rfl))
abbrev ctrV (s : Ctr) : Value := .agg s.cells
abbrev All := List (ByteArray × Ctr)
abbrev blocksOf (A : All) : List Nat := A.map fun x => x.2.hb
/-- The part: a map of counters. -/
def mapRes (p mb : Nat) (A : All) : Res where
  fp := p :: mb :: blocksOf A
  R w := Blk w p #[.map (some mb)] 108 ∧ MapOf strE ctrV w mb A ∧ (∀ x ∈ A, MapOf intE intV w x.2.hb x.2.holds) ∧ (p :: mb :: blocksOf A).Nodup
  stable := fun w w' hk ⟨h1, h2, h3, h4⟩ => ⟨(hk p (by simp)).trans h1, h2.keep (hk mb (by simp)), fun x hx => (h3 x hx).keep (hk _ (by simp; exact .inr (.inr ⟨x.1, x.2, hx, rfl⟩))), h4⟩
theorem mapRes_lt {p mb : Nat} {A : All} {w : World} (h : (mapRes p mb A).R w) : ∀ x ∈ (mapRes p mb A).fp, x < w.heap.size := by
  obtain ⟨h1, h2, h3, _⟩ := h
  intro x hx
  simp [mapRes] at hx
  rcases hx with rfl | rfl | ⟨n, s, hx, rfl⟩
  · exact h1.lt
  · exact h2.lt
  · exact (h3 _ hx).lt

/-! ### New -/
theorem New_ok (w : World) : Calls Try.prog 33 #[] w fun e w' => ∃ y : Nat × Nat, e = .returned (pV y.1) ∧ True ∧ Frm [] w w' ∧ (mapRes y.1 y.2 []).R w' ∧ (∀ x ∈ (mapRes y.1 y.2 []).fp, w.heap.size ≤ x) ∧ ∀ x ∈ (mapRes y.1 y.2 []).fp, x < w'.heap.size := by
  have hI := Inv.nil (P := Try.prog) (N := 4) (S := []) (os := []) w
  refine calls_sm (cx 4 [] [] w) (vals := []) mixed Try.func33 rfl rfl rfl hI rfl (st rfl ?_); conv => arg 3; whnf
  refine gg ?_
  refine n_makeMap (fun b => ⟨[b], fun w => MapOf strE ctrV w b [], fun _ _ hk h => h.keep (hk b (by simp))⟩) 106 rfl rfl rfl (fun _ => rfl) (fun w b h => MapOf.empty _ _ h) fun mb hmb => ?_
  (refine gs ?_)
  refine gg ?_
  refine n_ret rfl fun ids' w' hp hI' => ?_
  obtain ⟨p, rfl⟩ := ext1 hp (by rw [hI'.len]; rfl)
  have hB := hI'.at0 1 rfl rfl rfl
  have hR : MapOf strE ctrV w' mb [] := hI'.res 0 rfl rfl
  have hn : p ≠ mb := by simpa using hI'.ne_res 1 0 (by decide) rfl rfl rfl rfl rfl
  have hP := hI'.new_at 1 rfl rfl rfl rfl (by simp)
  have hall : (mapRes p mb []).R w' := ⟨hB, hR, by simp, by simp [hn]⟩
  exact ⟨_, rfl, ⟨p, mb⟩, rfl, trivial, hI'.frm, hall, by simp [mapRes]; exact ⟨hP, hmb⟩, mapRes_lt hall⟩

/-! ### Peek -/
def peekV (A : All) (nm : ByteArray) : Value := match mget A nm with
  | some s => .tuple #[.int .i64 s.value, .int .i64 s.held, .int .i64 s.limit, .bool true]
  | none => .tuple #[.int .i64 0, .int .i64 0, .int .i64 0, .bool false]
theorem aggMap : aggB Try.prog 106 = some false := by kernel_rfl
theorem mapRes_ld {p mb : Nat} {A : All} {w : World} (h : (mapRes p mb A).R w) : (loadVar 106 ⟨p, 0, none⟩).run Try.prog w = .ok (.map (some mb)) w := load_cell aggMap (by rw [h.1.cell]; rfl)
theorem Peek_ok {p mb : Nat} {A : All} {w : World} (h : (mapRes p mb A).R w) (nm : ByteArray) (hs : nm.size ≤ maxLen) :
    Calls Try.prog 46 #[pV p, .string nm] w fun e w' => e = .returned (peekV A nm) ∧ Frm [] w w' := by
  have hI : Inv (cx 26 [] [] w) w [0] [⟨108, [.res (mapRes p mb A)], false⟩] := (Inv.nil w).consR (by simp) h (mapRes_lt h) (by simp)
  refine calls_sm (cx 26 [] [] w) (vals := [.raw (pV p), .str nm]) mixed Try.func46 rfl rfl rfl hI rfl (st rfl ?_); conv => arg 3; whnf
  refine gg ?_
  refine n_ldI (.raw (.map (some mb))) rfl rfl (fun _ w1 _ hI1 => mapRes_ld (hI1.res 0 rfl rfl)) ?_
  (refine gs ?_)
  refine gg ?_
  cases hm : mget A nm with
  | none =>
    refine n_lookup (E := strE) (ev' := ctrV) (b := mb) (kr := .str nm) (zr := .agg [.int .i64 0, .int .i64 0, .int .i64 0, .raw (.map none)]) (z := .agg #[.int .i64 0, .int .i64 0, .int .i64 0, .map none]) A nm (.tup [.agg [.int .i64 0, .int .i64 0, .int .i64 0, .raw (.map none)], .bool false]) strK rfl rfl rfl rfl rfl rfl hs rfl rfl (by rw [hm]; rfl) (fun _ w1 _ hI1 => by exact (hI1.res 0 rfl rfl).2.1) ?_
    (refine gs ?_)
    refine gg ?_
    have e : peekV A nm = .tuple #[.int .i64 0, .int .i64 0, .int .i64 0, .bool false] := by simp [peekV, hm]
    rw [e]
    exact n_ret0 rfl rfl fun ids' w' hp hI' => ⟨rfl, hI'.frm⟩
  | some s =>
    refine n_lookup (E := strE) (ev' := ctrV) (b := mb) (kr := .str nm) (zr := .agg [.int .i64 0, .int .i64 0, .int .i64 0, .raw (.map none)]) (z := .agg #[.int .i64 0, .int .i64 0, .int .i64 0, .map none]) A nm (.tup [.agg s.sv, .bool true]) strK rfl rfl rfl rfl rfl rfl hs rfl rfl (by rw [hm]; rfl) (fun _ w1 _ hI1 => by exact (hI1.res 0 rfl rfl).2.1) ?_
    (refine gs ?_)
    refine gg ?_
    have e : peekV A nm = .tuple #[.int .i64 s.value, .int .i64 s.held, .int .i64 s.limit, .bool true] := by simp [peekV, hm]
    rw [e]
    exact n_ret0 rfl rfl fun ids' w' hp hI' => ⟨rfl, hI'.frm⟩

/-! ### act -/
/-- What a closure sees. -/
def envRes (l : List (Nat × Array Value × TypeId)) : Res where
  fp := l.map Prod.fst
  R w := (∀ q ∈ l, Blk w q.1 q.2.1 q.2.2) ∧ (l.map Prod.fst).Nodup
  stable := fun w w' hk ⟨h1, h2⟩ => ⟨fun q hq => (hk q.1 (List.mem_map_of_mem hq)).trans (h1 q hq), h2⟩
theorem envRes_lt {l : List (Nat × Array Value × TypeId)} {w : World} (h : (envRes l).R w) : ∀ x ∈ (envRes l).fp, x < w.heap.size := by
  intro x hx
  obtain ⟨q, hq, rfl⟩ := List.mem_map.1 hx
  exact (h.1 _ hq).lt

abbrev bX (b : Nat) (n : Int) : Nat × Array Value × TypeId := (b, #[.int .i64 n], 3)
abbrev bV (b : Nat) : Nat × Array Value × TypeId := (b, #[mvV], 141)
abbrev bO (b : Nat) (k : Int) (nm : ByteArray) (x y : Int) : Nat × Array Value × TypeId := (b, opV k nm x y, 50)
/-- A new part. -/
abbrev Fresh (w w' : World) (ρ : Res) : Prop := Frm [] w w' ∧ ρ.R w' ∧ (∀ x ∈ ρ.fp, w.heap.size ≤ x) ∧ ∀ x ∈ ρ.fp, x < w'.heap.size

theorem act_inc {w : World} (k : Int) (nm : ByteArray) (a b h : Int) (hk : k = 2 ∨ k = 3) (ha : 0 ≤ a ∧ a ≤ 1099511627776) : Calls Try.prog 62 #[.agg (opV k nm a b), .int .i64 h] w fun e w' => ∃ y : Nat × Nat, e = .returned (.func (.func 74) #[] #[pV y.1, pV y.2]) ∧ True ∧ Fresh w w' (envRes [bX y.1 (if k = 3 then -a else a), bV y.2]) := by
  have hI := Inv.nil (P := Try.prog) (N := 38) (S := []) (os := []) w
  have e1 : IntKind.i64.wrap (0 - a) = -a := by rw [w64 (by omega) (by omega)]; omega
  rcases hk with rfl | rfl
  · refine calls_sm (cx 38 [] [] w) (vals := [.agg (opS 2 nm a b), .int .i64 h]) mixed Try.func62 rfl rfl rfl hI rfl (st rfl ?_); conv => arg 3; whnf
    refine gw ?_
    refine n_ret rfl fun ids' w' hp hI' => ?_
    obtain ⟨n0, n1, n2, n3, rfl⟩ := ext4 hp (by rw [hI'.len]; rfl)
    have hall : (envRes [bX n3 a, bV n2]).R w' := ⟨by simp; exact ⟨hI'.at0 3 rfl rfl rfl, hI'.at0 2 rfl rfl rfl⟩, by simp; exact hI'.ne_at 3 2 (by decide) rfl rfl rfl rfl rfl rfl⟩
    exact ⟨_, rfl, ⟨n3, n2⟩, rfl, trivial, hI'.frm, hall, by simp [envRes]; exact ⟨hI'.new_at 3 rfl rfl rfl rfl (by simp), hI'.new_at 2 rfl rfl rfl rfl (by simp)⟩, envRes_lt hall⟩
  · refine calls_sm (cx 38 [] [] w) (vals := [.agg (opS 3 nm a b), .int .i64 h]) mixed Try.func62 rfl rfl rfl hI rfl (st rfl ?_); conv => arg 3; whnf
    refine gw ?_
    rw [e1]
    refine n_ret rfl fun ids' w' hp hI' => ?_
    obtain ⟨n0, n1, n2, n3, rfl⟩ := ext4 hp (by rw [hI'.len]; rfl)
    have hall : (envRes [bX n3 (-a), bV n2]).R w' := ⟨by simp; exact ⟨hI'.at0 3 rfl rfl rfl, hI'.at0 2 rfl rfl rfl⟩, by simp; exact hI'.ne_at 3 2 (by decide) rfl rfl rfl rfl rfl rfl⟩
    exact ⟨_, rfl, ⟨n3, n2⟩, rfl, trivial, hI'.frm, hall, by simp [envRes]; exact ⟨hI'.new_at 3 rfl rfl rfl rfl (by simp), hI'.new_at 2 rfl rfl rfl rfl (by simp)⟩, envRes_lt hall⟩

theorem act_hold {w : World} (nm : ByteArray) (a b h : Int) : Calls Try.prog 62 #[.agg (opV 4 nm a b), .int .i64 h] w fun e w' => ∃ y : Nat × Nat × Nat, e = .returned (.func (.func 75) #[] #[pV y.1, pV y.2.1, pV y.2.2]) ∧ True ∧ Fresh w w' (envRes [bO y.1 4 nm a b, bX y.2.1 h, bV y.2.2]) := by
  have hI := Inv.nil (P := Try.prog) (N := 38) (S := []) (os := []) w
  refine calls_sm (cx 38 [] [] w) (vals := [.agg (opS 4 nm a b), .int .i64 h]) mixed Try.func62 rfl rfl rfl hI rfl (st rfl ?_); conv => arg 3; whnf
  refine gw ?_
  refine n_ret rfl fun ids' w' hp hI' => ?_
  obtain ⟨n0, n1, n2, rfl⟩ := ext3 hp (by rw [hI'.len]; rfl)
  have hall : (envRes [bO n0 4 nm a b, bX n1 h, bV n2]).R w' := ⟨by simp; exact ⟨hI'.at0 0 rfl rfl rfl, hI'.at0 1 rfl rfl rfl, hI'.at0 2 rfl rfl rfl⟩, by simp; exact ⟨⟨hI'.ne_at 0 1 (by decide) rfl rfl rfl rfl rfl rfl, hI'.ne_at 0 2 (by decide) rfl rfl rfl rfl rfl rfl⟩, hI'.ne_at 1 2 (by decide) rfl rfl rfl rfl rfl rfl⟩⟩
  exact ⟨_, rfl, ⟨n0, n1, n2⟩, rfl, trivial, hI'.frm, hall, by simp [envRes]; exact ⟨hI'.new_at 0 rfl rfl rfl rfl (by simp), hI'.new_at 1 rfl rfl rfl rfl (by simp), hI'.new_at 2 rfl rfl rfl rfl (by simp)⟩, envRes_lt hall⟩

theorem act_end {w : World} (k : Int) (nm : ByteArray) (a b h : Int) (hk : k = 5 ∨ k = 6 ∨ k = 12) : Calls Try.prog 62 #[.agg (opV k nm a b), .int .i64 h] w fun e w' => ∃ y : Nat × Nat, e = .returned (.func (.func 76) #[] #[pV y.1, pV y.2]) ∧ True ∧ Fresh w w' (envRes [bO y.1 k nm a b, bV y.2]) := by
  have hI := Inv.nil (P := Try.prog) (N := 38) (S := []) (os := []) w
  rcases hk with rfl | rfl | rfl
  · refine calls_sm (cx 38 [] [] w) (vals := [.agg (opS 5 nm a b), .int .i64 h]) mixed Try.func62 rfl rfl rfl hI rfl (st rfl ?_); conv => arg 3; whnf
    refine gw ?_
    refine n_ret rfl fun ids' w' hp hI' => ?_
    obtain ⟨n0, n1, n2, rfl⟩ := ext3 hp (by rw [hI'.len]; rfl)
    have hall : (envRes [bO n0 5 nm a b, bV n2]).R w' := ⟨by simp; exact ⟨hI'.at0 0 rfl rfl rfl, hI'.at0 2 rfl rfl rfl⟩, by simp; exact hI'.ne_at 0 2 (by decide) rfl rfl rfl rfl rfl rfl⟩
    exact ⟨_, rfl, ⟨n0, n2⟩, rfl, trivial, hI'.frm, hall, by simp [envRes]; exact ⟨hI'.new_at 0 rfl rfl rfl rfl (by simp), hI'.new_at 2 rfl rfl rfl rfl (by simp)⟩, envRes_lt hall⟩
  · refine calls_sm (cx 38 [] [] w) (vals := [.agg (opS 6 nm a b), .int .i64 h]) mixed Try.func62 rfl rfl rfl hI rfl (st rfl ?_); conv => arg 3; whnf
    refine gw ?_
    refine n_ret rfl fun ids' w' hp hI' => ?_
    obtain ⟨n0, n1, n2, rfl⟩ := ext3 hp (by rw [hI'.len]; rfl)
    have hall : (envRes [bO n0 6 nm a b, bV n2]).R w' := ⟨by simp; exact ⟨hI'.at0 0 rfl rfl rfl, hI'.at0 2 rfl rfl rfl⟩, by simp; exact hI'.ne_at 0 2 (by decide) rfl rfl rfl rfl rfl rfl⟩
    exact ⟨_, rfl, ⟨n0, n2⟩, rfl, trivial, hI'.frm, hall, by simp [envRes]; exact ⟨hI'.new_at 0 rfl rfl rfl rfl (by simp), hI'.new_at 2 rfl rfl rfl rfl (by simp)⟩, envRes_lt hall⟩
  · refine calls_sm (cx 38 [] [] w) (vals := [.agg (opS 12 nm a b), .int .i64 h]) mixed Try.func62 rfl rfl rfl hI rfl (st rfl ?_); conv => arg 3; whnf
    refine gw ?_
    refine n_ret rfl fun ids' w' hp hI' => ?_
    obtain ⟨n0, n1, n2, rfl⟩ := ext3 hp (by rw [hI'.len]; rfl)
    have hall : (envRes [bO n0 12 nm a b, bV n2]).R w' := ⟨by simp; exact ⟨hI'.at0 0 rfl rfl rfl, hI'.at0 2 rfl rfl rfl⟩, by simp; exact hI'.ne_at 0 2 (by decide) rfl rfl rfl rfl rfl rfl⟩
    exact ⟨_, rfl, ⟨n0, n2⟩, rfl, trivial, hI'.frm, hall, by simp [envRes]; exact ⟨hI'.new_at 0 rfl rfl rfl rfl (by simp), hI'.new_at 2 rfl rfl rfl rfl (by simp)⟩, envRes_lt hall⟩
theorem act_take {w : World} (nm : ByteArray) (a b h : Int) : Calls Try.prog 62 #[.agg (opV 8 nm a b), .int .i64 h] w fun e w' => ∃ y : Nat × Nat, e = .returned (.func (.func 77) #[] #[pV y.1, pV y.2]) ∧ True ∧ Fresh w w' (envRes [bO y.1 8 nm a b, bV y.2]) := by
  have hI := Inv.nil (P := Try.prog) (N := 38) (S := []) (os := []) w
  refine calls_sm (cx 38 [] [] w) (vals := [.agg (opS 8 nm a b), .int .i64 h]) mixed Try.func62 rfl rfl rfl hI rfl (st rfl ?_); conv => arg 3; whnf
  refine gw ?_
  refine n_ret rfl fun ids' w' hp hI' => ?_
  obtain ⟨n0, n1, n2, rfl⟩ := ext3 hp (by rw [hI'.len]; rfl)
  have hall : (envRes [bO n0 8 nm a b, bV n2]).R w' := ⟨by simp; exact ⟨hI'.at0 0 rfl rfl rfl, hI'.at0 2 rfl rfl rfl⟩, by simp; exact hI'.ne_at 0 2 (by decide) rfl rfl rfl rfl rfl rfl⟩
  exact ⟨_, rfl, ⟨n0, n2⟩, rfl, trivial, hI'.frm, hall, by simp [envRes]; exact ⟨hI'.new_at 0 rfl rfl rfl rfl (by simp), hI'.new_at 2 rfl rfl rfl rfl (by simp)⟩, envRes_lt hall⟩

theorem act_reset {w : World} (nm : ByteArray) (a b h : Int) : Calls Try.prog 62 #[.agg (opV 9 nm a b), .int .i64 h] w fun e w' => ∃ y : Nat, e = .returned (.func (.func 78) #[] #[pV y]) ∧ True ∧ Fresh w w' (envRes [bO y 9 nm a b]) := by
  have hI := Inv.nil (P := Try.prog) (N := 38) (S := []) (os := []) w
  refine calls_sm (cx 38 [] [] w) (vals := [.agg (opS 9 nm a b), .int .i64 h]) mixed Try.func62 rfl rfl rfl hI rfl (st rfl ?_); conv => arg 3; whnf
  refine gw ?_
  refine n_ret rfl fun ids' w' hp hI' => ?_
  obtain ⟨n0, n1, n2, rfl⟩ := ext3 hp (by rw [hI'.len]; rfl)
  have hall : (envRes [bO n0 9 nm a b]).R w' := ⟨by simp; exact hI'.at0 0 rfl rfl rfl, by simp⟩
  exact ⟨_, rfl, n0, rfl, trivial, hI'.frm, hall, by simp [envRes]; exact hI'.new_at 0 rfl rfl rfl rfl (by simp), envRes_lt hall⟩
theorem act_recap {w : World} (nm : ByteArray) (a b h : Int) : Calls Try.prog 62 #[.agg (opV 10 nm a b), .int .i64 h] w fun e w' => ∃ y : Nat, e = .returned (.func (.func 79) #[] #[pV y]) ∧ True ∧ Fresh w w' (envRes [bO y 10 nm a b]) := by
  have hI := Inv.nil (P := Try.prog) (N := 38) (S := []) (os := []) w
  refine calls_sm (cx 38 [] [] w) (vals := [.agg (opS 10 nm a b), .int .i64 h]) mixed Try.func62 rfl rfl rfl hI rfl (st rfl ?_); conv => arg 3; whnf
  refine gw ?_
  refine n_ret rfl fun ids' w' hp hI' => ?_
  obtain ⟨n0, n1, n2, rfl⟩ := ext3 hp (by rw [hI'.len]; rfl)
  have hall : (envRes [bO n0 10 nm a b]).R w' := ⟨by simp; exact hI'.at0 0 rfl rfl rfl, by simp⟩
  exact ⟨_, rfl, n0, rfl, trivial, hI'.frm, hall, by simp [envRes]; exact hI'.new_at 0 rfl rfl rfl rfl (by simp), envRes_lt hall⟩
theorem act_read {w : World} (nm : ByteArray) (a b h : Int) : Calls Try.prog 62 #[.agg (opV 7 nm a b), .int .i64 h] w fun e w' => e = .returned (.func (.func 80) #[] #[]) ∧ Frm [] w w' := by
  have hI := Inv.nil (P := Try.prog) (N := 38) (S := []) (os := []) w
  refine calls_sm (cx 38 [] [] w) (vals := [.agg (opS 7 nm a b), .int .i64 h]) mixed Try.func62 rfl rfl rfl hI rfl (st rfl ?_); conv => arg 3; whnf
  refine gw ?_
  exact n_ret0 rfl rfl fun ids' w' hp hI' => ⟨rfl, hI'.frm⟩
end
section
set_option maxRecDepth 100000
set_option linter.unusedSimpArgs false
set_option linter.unusedVariables false
set_option maxHeartbeats 4000000
open Go.RowKit
open Go.Maps (Keyed)

/-! ### Lists of pairs -/
section
variable {κ ν : Type} [DecidableEq κ]
theorem mget_split : ∀ {A : List (κ × ν)} {x : κ} {s : ν}, mget A x = some s → ∃ l r, A = l ++ (x, s) :: r ∧ ∀ y, mput A x y = l ++ (x, y) :: r
  | [], x, s, h => by simp [mget] at h
  | (x', s') :: A, x, s, h => by
    by_cases e : x' = x
    · subst e
      simp [mget] at h
      subst h
      exact ⟨[], A, rfl, fun y => by simp [mput]⟩
    · have h' : mget A x = some s := by simpa [mget, e] using h
      obtain ⟨l, r, h1, h2⟩ := mget_split h'
      exact ⟨(x', s') :: l, r, by simp [h1], fun y => by simp [mput, e, h2 y]⟩
theorem mput_self {A : List (κ × ν)} {x : κ} {s : ν} (h : mget A x = some s) : mput A x s = A := by
  obtain ⟨l, r, h1, h2⟩ := mget_split h
  rw [h2, h1]
theorem mput_mput (A : List (κ × ν)) (x : κ) (y z : ν) : mput (mput A x y) x z = mput A x z := by
  induction A with
  | nil => simp [mput]
  | cons p A ih =>
    obtain ⟨x', s'⟩ := p
    by_cases e : x' = x
    · simp [mput, e]
    · simp [mput, e, ih]
end

theorem blocksOf_put {A : All} {nm : ByteArray} {s s' : Ctr} (hm : mget A nm = some s) (he : s'.hb = s.hb) : blocksOf (mput A nm s') = blocksOf A := by
  obtain ⟨l, r, h1, h2⟩ := mget_split hm
  rw [h2, h1]
  simp [he]
/-- Holds of one counter have changed. -/
theorem mapRes_holds {p mb cb : Nat} {A : All} {nm : ByteArray} {s : Ctr} (hm : mget A nm = some s) (holds' : List (Int × Int)) {w w' : World} (hR : (mapRes p mb A).R w) (hf : Frm [cb, s.hb] w w') (hcb : cb ∉ (mapRes p mb A).fp) (hM : MapOf intE intV w' s.hb holds') :
    (mapRes p mb (mput A nm { s with holds := holds' })).R w' := by
  have hblk := blocksOf_put (s' := { s with holds := holds' }) hm rfl
  obtain ⟨l, r, h1, h2⟩ := mget_split hm
  have hlt := mapRes_lt hR
  obtain ⟨r1, r2, r3, r4⟩ := hR
  have hkeep : ∀ x ∈ (mapRes p mb A).fp, x ≠ s.hb → w'.heap[x]? = w.heap[x]? := fun x hx hn => hf.block x (hlt x hx) (by
    simp only [List.mem_cons, List.not_mem_nil, or_false, not_or]
    exact ⟨fun e => hcb (e ▸ hx), hn⟩)
  rw [h1] at r4
  simp only [blocksOf, List.map_append, List.map_cons, List.nodup_cons, List.mem_cons, List.mem_append, not_or, List.nodup_append] at r4
  obtain ⟨⟨n1, n2, n3, n4⟩, ⟨n5, n6, n7⟩, n8, ⟨n9, n10⟩, n11⟩ := r4
  refine ⟨(hkeep p (by simp [mapRes]) n3).trans r1, ?_, ?_, ?_⟩
  · obtain ⟨⟨es, cl, e1, e2, e3⟩, e4⟩ := r2
    refine ⟨⟨es, cl, (hkeep mb (by simp [mapRes]) n6).trans e1, e2, ?_⟩, ?_⟩
    · rw [e3, h2, h1]; simp
    · intro q hq
      rw [h2] at hq
      simp only [List.mem_append, List.mem_cons] at hq
      rcases hq with hq | rfl | hq
      · exact e4 q (by simp [h1, hq])
      · exact e4 (nm, s) (by simp [h1])
      · exact e4 q (by simp [h1, hq])
  · intro x hx
    rw [h2] at hx
    simp only [List.mem_append, List.mem_cons] at hx
    have ho : ∀ x ∈ A, x.2.hb ≠ s.hb → MapOf intE intV w' x.2.hb x.2.holds := fun x hx hn => (r3 x hx).keep (hkeep _ (by simp only [mapRes, blocksOf, List.mem_cons, List.mem_map]; exact .inr (.inr ⟨x, hx, rfl⟩)) hn)
    rcases hx with hx | rfl | hx
    · exact ho x (by simp [h1, hx]) fun e => n11 x.2.hb (List.mem_map.2 ⟨x, hx, rfl⟩) x.2.hb (by rw [e]; simp) rfl
    · exact hM
    · exact ho x (by simp [h1, hx]) fun e => n9 (by rw [← e]; exact List.mem_map.2 ⟨x, hx, rfl⟩)
  · rw [hblk, h1]
    simp only [blocksOf, List.map_append, List.map_cons, List.nodup_cons, List.mem_cons, List.mem_append, not_or, List.nodup_append]
    exact ⟨⟨n1, n2, n3, n4⟩, ⟨n5, n6, n7⟩, n8, ⟨n9, n10⟩, n11⟩
/-- One counter has been stored. -/
theorem mapRes_put {p mb : Nat} {A : All} {nm : ByteArray} {s s' : Ctr} (hm : mget A nm = some s) (he : s'.hb = s.hb) (hh : s'.holds = s.holds) {w w' : World} (hR : (mapRes p mb A).R w) (hf : Frm [mb] w w') (hM : MapOf strE ctrV w' mb (mput A nm s')) :
    (mapRes p mb (mput A nm s')).R w' := by
  have hblk := blocksOf_put hm he
  obtain ⟨l, r, h1, h2⟩ := mget_split hm
  have hlt := mapRes_lt hR
  obtain ⟨r1, r2, r3, r4⟩ := hR
  have hkeep : ∀ x ∈ (mapRes p mb A).fp, x ≠ mb → w'.heap[x]? = w.heap[x]? := fun x hx hn => hf.block x (hlt x hx) (by simpa using hn)
  have r4' := r4
  simp only [List.nodup_cons, List.mem_cons, not_or] at r4'
  have ho : ∀ x ∈ A, MapOf intE intV w' x.2.hb x.2.holds := fun x hx => (r3 x hx).keep (hkeep _ (by simp only [mapRes, blocksOf, List.mem_cons, List.mem_map]; exact .inr (.inr ⟨x, hx, rfl⟩)) fun e => r4'.2.1 (List.mem_map.2 ⟨x, hx, e⟩))
  refine ⟨(hkeep p (by simp [mapRes]) r4'.1.1).trans r1, hM, fun x hx => ?_, by rw [hblk]; exact r4⟩
  rw [h2] at hx
  simp only [List.mem_append, List.mem_cons] at hx
  rcases hx with hx | rfl | hx
  · exact ho x (by simp [h1, hx])
  · have := ho (nm, s) (by simp [h1])
    simpa [he, hh] using this
  · exact ho x (by simp [h1, hx])

/-! ### What Do does -/
def actF (s : Ctr) (k a b h : Int) : Ctr × Int × Int :=
  if k = 2 then s.inc a else if k = 3 then s.inc (-a) else if k = 4 then s.hold a h else if k = 5 then s.end_ 5 a else if k = 6 then s.end_ 6 a else if k = 12 then s.end_ 12 a
  else if k = 8 then s.take a b else if k = 9 then s.reset a else if k = 10 then s.recap a else (s, s.value, 0)
def doF (A : All) (hn : Nat) (k : Int) (nm : ByteArray) (a b h : Int) : All × Int × Int :=
  if rightB k nm a b = false then (A, 0, 1) else match mget A nm with
  | none => if k = 1 then (if a < b then (A, 0, 61) else (mput A nm ⟨a, b, 0, hn, []⟩, 0, 0)) else (A, 0, 100)
  | some s => if k = 1 then (A, 0, 101) else (mput A nm (actF s k a b h).1, (actF s k a b h).2)
theorem actF_err {s : Ctr} {k a b h : Int} (he : (actF s k a b h).2.2 ≠ 0) : (actF s k a b h).1 = s ∧ (actF s k a b h).2.1 = 0 := by
  revert he
  unfold actF Ctr.inc Ctr.hold Ctr.end_ Ctr.take Ctr.reset Ctr.recap
  repeat' split
  all_goals simp
theorem actF_hb (s : Ctr) (k a b h : Int) : (actF s k a b h).1.hb = s.hb := by
  unfold actF Ctr.inc Ctr.hold Ctr.end_ Ctr.take Ctr.reset Ctr.recap
  repeat' split
  all_goals rfl
end
end Go.Proofs.Ytfcbcgjgkleonaa
