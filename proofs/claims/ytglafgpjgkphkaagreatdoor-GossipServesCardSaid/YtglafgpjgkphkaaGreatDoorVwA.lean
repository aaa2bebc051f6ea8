/- Package views and the document's: names that are good, views that are right. -/
import Derived.Test.YtglafgpjgkphkaaGreatDoorBnY
import Derived.Test.YtglafgpjgkphkaaGreatDoorMix
import Derived.Test.YtglafgpjgkphkaaGreatDoorBnX
set_option maxRecDepth 100000
set_option linter.unusedSimpArgs false
set_option linter.unusedVariables false
set_option maxHeartbeats 2000000
namespace Go.Proofs.YtglafgpjgkphkaaGreatDoor
open Go.RowKit

/-! ### good -/
def badB (b : UInt8) : Bool := decide (b.toNat < 33) || decide (126 < b.toNat)
theorem good1_ok (b : UInt8) (w : World) : Calls Tryz.prog 74 #[.int .u8 b.toNat] w fun e w' => e = .returned (.bool (badB b)) ∧ Frm [] w w' := by
  have hI := Inv.nil (P := Tryz.prog) (N := 9) (S := []) (os := []) w
  refine calls_sm (cx 9 [] [] w) (vals := [.int .u8 b.toNat]) mixed Tryz.func74 rfl rfl rfl hI rfl (st rfl ?_); conv => arg 3; whnf
  (repeat' (first | ((first | refine n_must rfl ?_ | refine n_chk (drawF_ok (by decide +kernel)) ?_ | refine n_same rfl ?_); (refine gs ?_)) | (((first | ((first | refine n_must ?_ ?_ | refine n_brT ?_ ?_); (focus (first | (simp; done) | (simp; omega)))) | (refine n_brF ?_ ?_; (focus (first | (simp; done) | (simp; omega)))))); (refine gs ?_)) | (refine n_br (fun hbr => ?_) (fun hbr => ?_) <;> simp at hbr <;> (refine gs ?_))))
  all_goals refine n_ret0 rfl rfl fun ids' w' hp hI' => ⟨ret_bool ?_, hI'.frm⟩
  all_goals (simp [badB]; try omega)
  have e : decide (b.toNat < 33) = false := by simp; omega
  rw [e, Bool.false_or]
  apply decide_eq_decide.2
  omega

def firstBad (s : ByteArray) : Int := match s.data.toList.findIdx? badB with | some i => i | none => -1

theorem aggByte : aggB Tryz.prog 5 = some false := by kernel_rfl
theorem IndexFunc_ok {w : World} {a : Addr} {s : ByteArray} (hs : BytesAt w a s) (ha : a.block < w.heap.size) (hsz : s.size ≤ 4611686018427387904) (cap : Nat) :
    Calls Tryz.prog 86 #[.slice (some a) s.size cap, .func (.func 74) #[] #[]] w fun e w' => e = .returned (.int .i64 (firstBad s)) ∧ Frm [] w w' := by
  have hI := Inv.nil (P := Tryz.prog) (N := 19) (S := []) (os := []) w
  refine calls_sm (cx 19 [] [] w) (vals := [.raw (.slice (some a) s.size cap), .fn (.func 74) [] []]) mixed Tryz.func86 rfl rfl rfl hI rfl (st rfl ?_); conv => arg 3; whnf
  refine gg ?_
  have hget : ∀ j (hj : j < s.data.toList.length), s.data.toList.getD j 0 = s.data.toList[j] := fun j hj => by rw [List.getD, List.getElem?_eq_getElem hj]; rfl
  have hlen : s.data.toList.length = s.size := by simp
  refine n_loop (σ := Nat) (fun i => [(0, .raw (.slice (some a) s.size cap)), (1, .fn (.func 74) [] []), (7, .int .i64 (s.size : Nat)), (8, .int .i64 (i : Nat))]) (fun _ => []) (fun i => i ≤ s.size ∧ ∀ j (hj : j < s.data.toList.length), j < i → badB s.data.toList[j] = false) (fun i => s.size - i) 0 mixed ⟨by omega, by intro j _ h; omega⟩ (fun _ _ => rfl) rfl (by (repeat (first | exact trivial | refine ⟨⟨rfl, rfl⟩, ?_⟩))) (fun s _ => ⟨by (repeat (first | exact trivial | refine ⟨⟨_, rfl⟩, ?_⟩)), by (repeat (first | exact trivial | refine ⟨⟨_, rfl⟩, ?_⟩))⟩) fun i hJ => ?_
  obtain ⟨hi, hJ⟩ := hJ
  (refine gs ?_)
  by_cases hlt : i < s.size
  · have hlt' : i < s.data.toList.length := by omega
    have ei : IntKind.i64.wrap ((i : Int) + 1) = ((i + 1 : Nat) : Int) := by rw [w64 (by omega) (by omega)]; simp
    refine gw ?_
    refine n_ld (.int .u8 s.data.toList[i].toNat) rfl rfl (fun w' hf => load_cell aggByte (by have := (hs.frm hf ha) i hlt; rw [hget i hlt'] at this; simpa using this)) ?_
    (refine gs ?_)
    refine gw ?_
    refine n_sameP (.bool (badB s.data.toList[i])) rfl rfl rfl (fun _ w1 hp1 hI1 => good1_ok s.data.toList[i] w1) ?_; (refine gs ?_)
    refine gw ?_
    refine n_br (fun h1 => ?_) (fun h1 => ?_) <;> (refine gs ?_)
    · refine gw ?_
      refine n_leave ?_
      have e : firstBad s = i := by
        unfold firstBad
        rw [List.findIdx?_eq_some_iff_getElem.2 ⟨hlt', h1, fun j hj => by rw [hJ j (by omega) hj]; simp⟩]
      rw [e]
      exact n_ret0 rfl rfl fun ids' w' hp hI' => ⟨rfl, hI'.frm⟩
    · refine gw ?_
      refine n_again ⟨i + 1, ⟨by omega, fun j hj hji => ?_⟩, by omega, (by (repeat (first | exact trivial | refine ⟨⟨rfl, rfl⟩, ?_⟩ | refine ⟨⟨rfl, congrArg (SV.int .i64) ei⟩, ?_⟩))), ⟨_, rfl⟩⟩
      by_cases e : j = i
      · subst e; exact h1
      · exact hJ j hj (by omega)
  · refine gw ?_
    refine n_exit rfl ?_
    (refine gs ?_)
    refine gw ?_
    have e : firstBad s = -1 := by
      unfold firstBad
      rw [List.findIdx?_eq_none_iff.2 fun x hx => ?_]
      obtain ⟨j, hj, rfl⟩ := List.getElem_of_mem hx
      exact hJ j hj (by omega)
    rw [e]
    exact n_ret0 rfl rfl fun ids' w' hp hI' => ⟨rfl, hI'.frm⟩

theorem ContainsFunc_ok {w : World} {a : Addr} {s : ByteArray} (hs : BytesAt w a s) (ha : a.block < w.heap.size) (hsz : s.size ≤ 4611686018427387904) (cap : Nat) :
    Calls Tryz.prog 73 #[.slice (some a) s.size cap, .func (.func 74) #[] #[]] w fun e w' => e = .returned (.bool (decide (0 ≤ firstBad s))) ∧ Frm [] w w' := by
  have hI := Inv.nil (P := Tryz.prog) (N := 9) (S := []) (os := []) w
  refine calls_sm (cx 9 [] [] w) (vals := [.raw (.slice (some a) s.size cap), .fn (.func 74) [] []]) mixed Tryz.func73 rfl rfl rfl hI rfl (st rfl ?_); conv => arg 3; whnf
  refine gg ?_
  refine n_sameP (.int .i64 (firstBad s)) rfl rfl rfl (fun _ w1 hp1 hI1 => IndexFunc_ok (hs.frm hI1.frm ha) (Nat.lt_of_lt_of_le ha hI1.frm.size) hsz cap) ?_; (refine gs ?_)
  refine gg ?_
  exact n_ret0 rfl rfl fun ids' w' hp hI' => ⟨rfl, hI'.frm⟩

def namedB (s : ByteArray) : Bool := !(s.toList == ({ data := #[] } : ByteArray).toList) && decide (s.size ≤ 16) && decide (firstBad s < 0)
theorem good_ok (s : ByteArray) (w : World) : Calls Tryz.prog 60 #[.string s] w fun e w' => e = .returned (.bool (namedB s)) ∧ Frm [] w w' := by
  have hI := Inv.nil (P := Tryz.prog) (N := 16) (S := []) (os := []) w
  refine calls_sm (cx 16 [] [] w) (vals := [.str s]) mixed Tryz.func60 rfl rfl rfl hI rfl (st rfl ?_); conv => arg 3; whnf
  refine gg ?_
  refine n_br (fun h1 => ?_) (fun h1 => ?_) <;> (refine gs ?_)
  · refine gg ?_
    refine n_br (fun h2 => ?_) (fun h2 => ?_) <;> (refine gs ?_)
    · refine gg ?_
      refine n_bytes rfl rfl rfl rfl rfl rfl rfl fun b cap hb => ?_
      (refine gs ?_)
      refine gg ?_
      refine n_sameP (.bool (decide (0 ≤ firstBad s))) rfl rfl rfl (fun _ w1 hp1 hI1 => ContainsFunc_ok (hI1.res 0 rfl rfl) (hI1.resLt 0 rfl rfl b (by simp [bytesRes])) (by simp at h2; omega) cap) ?_; (refine gs ?_)
      refine gg ?_
      refine n_ret0 rfl rfl fun ids' w' hp hI' => ⟨ret_bool ?_, hI'.frm⟩
      simp only [namedB, h1, Bool.true_and]
      simp at h2 ⊢
      rw [decide_eq_true (show s.size ≤ 16 by omega), ← decide_not]
      exact decide_eq_decide.2 (by omega)
    · refine gg ?_
      refine n_ret0 rfl rfl fun ids' w' hp hI' => ⟨ret_bool ?_, hI'.frm⟩
      simp only [namedB, h1, Bool.true_and]
      simp at h2 ⊢
      omega
  · refine gg ?_
    refine n_ret0 rfl rfl fun ids' w' hp hI' => ⟨ret_bool ?_, hI'.frm⟩
    simp only [namedB, h1, Bool.false_and]


/-! ### A view -/
structure Vw where
  nm : ByteArray
  cap : Int
  rc : Int
  ver : Int
  d : Int
  u : Int
  h : Int
  deriving DecidableEq
abbrev Vw.l (v : Vw) : List Value := [.string v.nm, .int .i64 v.cap, .int .i64 v.rc, .int .i64 v.ver, .int .i64 v.d, .int .i64 v.u, .int .i64 v.h]
abbrev Vw.val (v : Vw) : Value := .agg #[.string v.nm, .int .i64 v.cap, .int .i64 v.rc, .int .i64 v.ver, .int .i64 v.d, .int .i64 v.u, .int .i64 v.h]
abbrev Vw.sv (v : Vw) : List SV := [.str v.nm, .int .i64 v.cap, .int .i64 v.rc, .int .i64 v.ver, .int .i64 v.d, .int .i64 v.u, .int .i64 v.h]
abbrev Vw.zero : Vw := ⟨{ data := #[] }, 0, 0, 0, 0, 0, 0⟩
abbrev i64 (x : Int) : Prop := -9223372036854775808 ≤ x ∧ x ≤ 9223372036854775807
structure Vw.ok (v : Vw) : Prop where
  nm : v.nm.size ≤ maxLen
  cap : i64 v.cap
  rc : i64 v.rc
  ver : i64 v.ver
  d : i64 v.d
  u : i64 v.u
  h : i64 v.h
abbrev Vw.lin (v : Vw) : Prop := 1 ≤ v.cap ∧ v.cap ≤ 1099511627776 ∧ 1 ≤ v.ver ∧ 0 ≤ v.rc ∧ 0 ≤ v.d ∧ 0 ≤ v.u ∧ 0 ≤ v.h ∧ v.d + v.u + v.h ≤ v.cap
def rightB (v : Vw) : Bool := namedB v.nm && decide v.lin
theorem rb_named {v : Vw} (h : namedB v.nm = false) : false = rightB v := by simp [rightB, h]
theorem rb_false {v : Vw} (h : ¬ v.lin) : false = rightB v := by rw [rightB, decide_eq_false h, Bool.and_false]
theorem rb_true {v : Vw} (hn : namedB v.nm = true) {p : Prop} [Decidable p] (h : p ↔ v.lin) : decide p = rightB v := by rw [rightB, hn, Bool.true_and]; exact decide_eq_decide.2 h

theorem right_ok (v : Vw) (w : World) : Calls Tryz.prog 45 #[v.val] w fun e w' => e = .returned (.bool (rightB v)) ∧ Frm [] w w' := by
  obtain ⟨nm, cap, rc, ver, d, u, h⟩ := v
  have hI := Inv.nil (P := Tryz.prog) (N := 68) (S := []) (os := []) w
  refine calls_sm (cx 68 [] [] w) (vals := [.agg (Vw.sv ⟨nm, cap, rc, ver, d, u, h⟩)]) mixed Tryz.func45 rfl rfl rfl hI rfl (st rfl ?_); conv => arg 3; whnf
  refine gg ?_
  refine n_sameP (.bool (namedB nm)) rfl rfl rfl (fun _ w1 hp1 hI1 => good_ok nm w1) ?_; (refine gs ?_)
  refine gg ?_
  refine n_br (fun h1 => ?_) (fun h1 => ?_) <;> (refine gs ?_)
  · repeat' (first | (refine n_must rfl ?_; (refine gs ?_)) | (refine n_chk (drawF_ok (by decide +kernel)) ?_; (refine gs ?_)) | (refine n_same rfl ?_; (refine gs ?_)) | (refine n_br (fun hbr => ?_) (fun hbr => ?_) <;> simp only [decide_eq_true_eq, decide_eq_false_iff_not, Bool.not_eq_true', Bool.not_eq_false'] at hbr <;> (refine gs ?_)))
    all_goals refine n_ret0 rfl rfl fun ids' w' hp hI' => ⟨ret_bool ?_, hI'.frm⟩
    all_goals first | exact rb_false (by dsimp only [Vw.lin]; omega) | skip
    rw [w64 (n := d + u) (by omega) (by omega), w64 (n := d + u + h) (by omega) (by omega)]
    exact rb_true h1 (by dsimp only [Vw.lin]; omega)
  · refine gg ?_
    refine n_ret0 rfl rfl fun ids' w' hp hI' => ⟨ret_bool ?_, hI'.frm⟩
    exact rb_named h1

/-! ### The document's -/
section
variable {N : Nat} {os : List (Nat × Odr)} {S : List Nat} {w0 : World} {Q : SExit → Fr → Mem → List Nat → World → Prop} {ids : List Nat} {fr : Fr} {mem : Mem} {todo : List Task}
/-- s[i]. -/
theorem n_strIndex {o : Oper} {x ix : Operand} {s : ByteArray} {i : Nat} (hi : i < s.data.toList.length) (ho : o.op = .index 9 x ix) (hd : dstOk (cx N os S w0) o.dst = true) (hx : ev fr x = some (.str s)) (hix : ev fr ix = some (.int .i64 (i : Int)))
    (hk : satS (cx N os S w0) Q ⟨putF o.dst (.int .u8 (s.data.toList[i].toNat : Int)) fr, mem, todo⟩ ids) : satN (cx N os S w0) Q (.op o ⟨fr, mem, todo⟩) ids :=
  n_run hd fun ids' w ρ hp hI hρ => by
    have hx' := hρ x _ hx
    have hi' := hρ ix _ hix
    simp only [den, Option.some.injEq] at hx' hi'
    refine ⟨_, w, .int .u8 (s.data.toList[i].toNat : Int), mem, ids', ?_, rfl, List.prefix_refl _, hI, satS_mono hp hk⟩
    have hi2 : i < s.data.size := by simpa using hi
    unfold execOp
    simp only [ho, ← hx', ← hi']
    have hi3 : s[i]? = some s.data[i] := by rw [getElem?_pos s i hi2]; rfl
    simp [Instr.index, asIntOf, run_underlying Tryz.underlying9, hi3]
end
theorem rGood_ok (s : ByteArray) (w : World) : Calls Tryz.prog 85 #[.string s] w fun e w' => e = .returned (.bool (namedB s)) ∧ Frm [] w w' := by
  have hI := Inv.nil (P := Tryz.prog) (N := 28) (S := []) (os := []) w
  have hlen : s.data.toList.length = s.size := by simp
  have hemp : (s.toList == ({ data := #[] } : ByteArray).toList) = decide (s.size = 0) := by
    rw [ByteArray.toList_eq, ByteArray.toList_eq, Bool.eq_iff_iff]
    simp only [beq_iff_eq, decide_eq_true_eq]
    constructor
    · intro h; have := congrArg List.length h; simpa using this
    · intro h; exact List.eq_nil_of_length_eq_zero (by omega)
  refine calls_sm (cx 28 [] [] w) (vals := [.str s]) mixed Tryz.func85 rfl rfl rfl hI rfl (st rfl ?_); conv => arg 3; whnf
  refine gg ?_
  refine n_br (fun h1 => ?_) (fun h1 => ?_) <;> simp only [decide_eq_true_eq, decide_eq_false_iff_not] at h1 <;> (refine gs ?_)
  · refine gg ?_
    refine n_ret0 rfl rfl fun ids' w' hp hI' => ⟨ret_bool ?_, hI'.frm⟩
    have : s.size = 0 := by omega
    simp only [namedB, hemp, this, decide_true, Bool.not_true, Bool.false_and]
  · refine gg ?_
    refine n_br (fun h2 => ?_) (fun h2 => ?_) <;> simp only [decide_eq_true_eq, decide_eq_false_iff_not] at h2 <;> (refine gs ?_)
    · refine gg ?_
      refine n_ret0 rfl rfl fun ids' w' hp hI' => ⟨ret_bool ?_, hI'.frm⟩
      have : ¬ s.size ≤ 16 := by omega
      simp [namedB, this]
    · refine gg ?_
      have hn0 : ¬ s.size = 0 := by omega
      have hn16 : s.size ≤ 16 := by omega
      refine n_loop (σ := Nat) (fun i => [(0, .str s), (3, .int .i64 (i : Nat))]) (fun _ => []) (fun i => i ≤ s.size ∧ ∀ j (hj : j < s.data.toList.length), j < i → badB s.data.toList[j] = false) (fun i => s.size - i) 0 mixed ⟨by omega, by intro j _ h; omega⟩ (fun _ _ => rfl) rfl (by (repeat (first | exact trivial | refine ⟨⟨rfl, rfl⟩, ?_⟩))) (fun s _ => ⟨by (repeat (first | exact trivial | refine ⟨⟨_, rfl⟩, ?_⟩)), by (repeat (first | exact trivial | refine ⟨⟨_, rfl⟩, ?_⟩))⟩) fun i hJ => ?_
      obtain ⟨hi, hJ⟩ := hJ
      (refine gs ?_)
      by_cases hlt : i < s.size
      · have hlt' : i < s.data.toList.length := by omega
        have ei : IntKind.i64.wrap ((i : Int) + 1) = ((i + 1 : Nat) : Int) := by rw [w64 (by omega) (by omega)]; simp
        refine gw ?_
        refine n_strIndex hlt' rfl rfl rfl rfl ?_
        (refine gs ?_)
        refine gg ?_
        have hbad : badB s.data.toList[i] = true → namedB s = false := by
          intro h
          have e : firstBad s = i := by
            unfold firstBad
            rw [List.findIdx?_eq_some_iff_getElem.2 ⟨hlt', h, fun j hj => by rw [hJ j (by omega) hj]; simp⟩]
          simp [namedB, e]
        generalize hb : s.data.toList[i] = b at hbad
        refine n_br (fun h3 => ?_) (fun h3 => ?_) <;> simp only [decide_eq_true_eq, decide_eq_false_iff_not] at h3 <;> (refine gs ?_)
        · refine gg ?_
          refine n_leave ?_
          rw [hbad (by simp [badB]; omega)]
          exact n_ret0 rfl rfl fun ids' w' hp hI' => ⟨rfl, hI'.frm⟩
        · refine gg ?_
          refine n_strIndex hlt' rfl rfl rfl rfl ?_
          (refine gs ?_)
          refine gg ?_
          rw [hb]
          refine n_br (fun h4 => ?_) (fun h4 => ?_) <;> simp only [decide_eq_true_eq, decide_eq_false_iff_not] at h4 <;> (refine gs ?_)
          · refine gg ?_
            refine n_leave ?_
            rw [hbad (by simp [badB]; omega)]
            exact n_ret0 rfl rfl fun ids' w' hp hI' => ⟨rfl, hI'.frm⟩
          · refine gg ?_
            refine n_again ⟨i + 1, ⟨by omega, fun j hj hji => ?_⟩, by omega, (by (repeat (first | exact trivial | refine ⟨⟨rfl, rfl⟩, ?_⟩ | refine ⟨⟨rfl, congrArg (SV.int .i64) ei⟩, ?_⟩))), ⟨_, rfl⟩⟩
            by_cases e : j = i
            · subst e; rw [hb]; simp [badB]; omega
            · exact hJ j hj (by omega)
      · refine gw ?_
        refine n_exit rfl ?_
        (refine gs ?_)
        refine gw ?_
        have e : firstBad s = -1 := by
          unfold firstBad
          rw [List.findIdx?_eq_none_iff.2 fun x hx => ?_]
          obtain ⟨j, hj, rfl⟩ := List.getElem_of_mem hx
          exact hJ j hj (by omega)
        have e2 : namedB s = true := by rw [namedB, hemp, e, decide_eq_false hn0, decide_eq_true hn16]; rfl
        rw [e2]
        exact n_ret0 rfl rfl fun ids' w' hp hI' => ⟨rfl, hI'.frm⟩

theorem rRight_ok (v : Vw) (w : World) : Calls Tryz.prog 68 #[v.val] w fun e w' => e = .returned (.bool (rightB v)) ∧ Frm [] w w' := by
  obtain ⟨nm, cap, rc, ver, d, u, h⟩ := v
  have hI := Inv.nil (P := Tryz.prog) (N := 82) (S := []) (os := []) w
  refine calls_sm (cx 82 [] [] w) (vals := [.agg (Vw.sv ⟨nm, cap, rc, ver, d, u, h⟩)]) mixed Tryz.func68 rfl rfl rfl hI rfl (st rfl ?_); conv => arg 3; whnf
  refine gg ?_
  refine n_sameP (.bool (namedB nm)) rfl rfl rfl (fun _ w1 hp1 hI1 => rGood_ok nm w1) ?_; (refine gs ?_)
  refine gg ?_
  refine n_br (fun h1 => ?_) (fun h1 => ?_) <;> simp only [Bool.not_eq_true', Bool.not_eq_false'] at h1 <;> (refine gs ?_)
  · refine gg ?_
    refine n_ret0 rfl rfl fun ids' w' hp hI' => ⟨ret_bool ?_, hI'.frm⟩
    exact rb_named h1
  · repeat' (first | (refine n_must rfl ?_; (refine gs ?_)) | (refine n_chk (drawF_ok (by decide +kernel)) ?_; (refine gs ?_)) | (refine n_same rfl ?_; (refine gs ?_)) | (refine n_br (fun hbr => ?_) (fun hbr => ?_) <;> simp only [decide_eq_true_eq, decide_eq_false_iff_not, Bool.not_eq_true', Bool.not_eq_false'] at hbr <;> (refine gs ?_)))
    all_goals refine n_ret0 rfl rfl fun ids' w' hp hI' => ⟨ret_bool ?_, hI'.frm⟩
    all_goals first | exact rb_false (by dsimp only [Vw.lin]; omega) | skip
    rw [w64 (n := d + u) (by omega) (by omega), w64 (n := d + u + h) (by omega) (by omega)]
    exact rb_true h1 (by dsimp only [Vw.lin]; omega)
end Go.Proofs.YtglafgpjgkphkaaGreatDoor
