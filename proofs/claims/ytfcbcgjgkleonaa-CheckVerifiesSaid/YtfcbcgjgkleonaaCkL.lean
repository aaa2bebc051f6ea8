/- Package check: open, sortOf, explains, places. -/
import Derived.Test.YtfcbcgjgkleonaaCkK
import Derived.DeepKeys4
set_option maxRecDepth 100000
set_option linter.unusedSimpArgs false
set_option linter.unusedVariables false
set_option maxHeartbeats 8000000
namespace Go.Proofs.Ytfcbcgjgkleonaa
open Go.RowKit
open Go.Maps (Keyed)

/-! ### Keys -/
theorem cellsCall : Try.prog.cellsOf 48 = 2 := by kernel_rfl
theorem wideCall : (match Try.prog.underlying 48 with | some (.array _ _) | some (.struct _) => true | _ => false) = true := by rw [Try.underlying48]
theorem callK : Keyed Try.prog 48 := Keyed.of_law (deep_law_laid (by kernel_rfl) (m := 3) (by omega) (of_decide_eq_true (by kernel_rfl)) (by kernel_rfl) wideCall)
theorem callTy : Try.prog.keyType 48 = true := by kernel_rfl
theorem typesN : ∃ n, Try.prog.types.size = n + 1 := ⟨Try.prog.types.size - 1, (Nat.sub_add_cancel (of_decide_eq_true (by kernel_rfl : decide (1 ≤ Try.prog.types.size) = true))).symm⟩
theorem call_of {r s : Int} (hr : i64 r) (hs : i64 s) : ∃ l, keyOf Try.prog 48 (.agg #[.int .i64 r, .int .i64 s]) = some l := by
  have hw := wf_of_i64 hr
  have hw2 := wf_of_i64 hs
  have hf : (Value.agg #[.int .i64 r, .int .i64 s]).formed Try.prog 48 = true := by simp [Value.formed, Try.underlying48, cellsCall]
  have hci : Try.prog.cellsOf 3 = 1 := by kernel_rfl
  obtain ⟨n, hn⟩ := typesN
  unfold keyOf
  simp only [Try.underlying48, callTy, hf, Bool.and_self, if_true, Value.cells, hn]
  simp only [Program.keyLits, Try.underlying48, cellsCall]
  simp [hci, Try.underlying3, hw, hw2]
def callE : KeyEnc Try.prog 48 (Int × Int) where
  ek x := .agg #[.int .i64 x.1, .int .i64 x.2]
  ok x := i64 x.1 ∧ i64 x.2
  key x hx := call_of hx.1 hx.2
  inj x y h := by
    simp only [Value.agg.injEq] at h
    simp at h
    exact Prod.ext h.1 h.2
/-- A map of calls, as a part. -/
def kmRes {ν : Type} (ev : ν → Value) (b : Nat) (m : List ((Int × Int) × ν)) : Res where
  fp := [b]
  R w := MapOf callE ev w b m
  stable := fun w w' hk h => h.keep (hk b (by simp))

/-! ### open, sortOf, explains -/
theorem cOpen_ok (p : Pa) (w : World) : Calls Try.prog 45 #[p.val] w fun e w' => e = .returned (.bool (openF p)) ∧ Frm [] w w' := by
  have hI := Inv.nil (P := Try.prog) (N := 11) (S := []) (os := []) w
  refine calls_sm (cx 11 [] [] w) (vals := [.agg p.sv]) mixed Try.func45 rfl rfl rfl hI rfl (st rfl ?_); conv => arg 3; whnf
  (repeat' (first | ((first | refine n_must rfl ?_ | refine n_chk (drawF_ok (by decide +kernel)) ?_ | refine n_same rfl ?_); (refine st rfl ?_; conv => arg 3; whnf)) | (((first | ((first | refine n_must ?_ ?_ | refine n_brT ?_ ?_); (focus (first | (simp; done) | (simp; omega)))) | (refine n_brF ?_ ?_; (focus (first | (simp; done) | (simp; omega)))))); (refine st rfl ?_; conv => arg 3; whnf)) | (refine n_br (fun hbr => ?_) (fun hbr => ?_) <;> simp at hbr <;> (refine st rfl ?_; conv => arg 3; whnf))))
  all_goals refine n_ret0 rfl rfl fun ids' w' hp hI' => ⟨ret_bool ?_, hI'.frm⟩
  all_goals first | (simp [openF, *]; done) | (rw [Bool.eq_iff_iff]; simp [openF, *])
theorem cSort_ok (p : Pa) (w : World) : Calls Try.prog 30 #[p.val] w fun e w' => e = .returned (.int .i64 (sortF p)) ∧ Frm [] w w' := by
  have hI := Inv.nil (P := Try.prog) (N := 41) (S := []) (os := []) w
  refine calls_sm (cx 41 [] [] w) (vals := [.agg p.sv]) mixed Try.func30 rfl rfl rfl hI rfl (st rfl ?_); conv => arg 3; whnf
  by_cases h0 : p.k = 11
  · (repeat ((first | refine n_must rfl ?_ | refine n_chk (drawF_ok (by decide +kernel)) ?_ | refine n_same rfl ?_ | ((first | refine n_must ?_ ?_ | refine n_brT ?_ ?_); (focus (first | (simp [h0]; done) | (simp [h0]; omega) | (simp only [h0]; simp; done)))) | (refine n_brF ?_ ?_; (focus (first | (simp [h0]; done) | (simp [h0]; omega) | (simp only [h0]; simp; done)))) | refine n_must (by (with_reducible refine and_shape ?_) <;> kernel_rfl) ?_); (refine st rfl ?_; conv => arg 3; whnf)))
    have e : sortF p = 0 := by simp [sortF, h0]
    rw [e]
    exact n_ret0 rfl rfl fun ids' w' hp hI' => ⟨rfl, hI'.frm⟩
  (repeat ((first | refine n_must rfl ?_ | refine n_chk (drawF_ok (by decide +kernel)) ?_ | refine n_same rfl ?_ | ((first | refine n_must ?_ ?_ | refine n_brT ?_ ?_); (focus (first | (simp [h0]; done) | (simp [h0]; omega) | (simp only [h0]; simp; done)))) | (refine n_brF ?_ ?_; (focus (first | (simp [h0]; done) | (simp [h0]; omega) | (simp only [h0]; simp; done)))) | refine n_must (by (with_reducible refine and_shape ?_) <;> kernel_rfl) ?_); (refine st rfl ?_; conv => arg 3; whnf)))
  refine n_sameP (.bool (openF p)) rfl rfl rfl (fun _ w1 hp1 hI1 => cOpen_ok p w1) ?_; (refine st rfl ?_; conv => arg 3; whnf)
  by_cases h1 : openF p = true
  · (repeat ((first | refine n_must rfl ?_ | refine n_chk (drawF_ok (by decide +kernel)) ?_ | refine n_same rfl ?_ | ((first | refine n_must ?_ ?_ | refine n_brT ?_ ?_); (focus (first | (simp [h1]; done) | (simp [h1]; omega) | (simp only [h1]; simp; done)))) | (refine n_brF ?_ ?_; (focus (first | (simp [h1]; done) | (simp [h1]; omega) | (simp only [h1]; simp; done)))) | refine n_must (by (with_reducible refine and_shape ?_) <;> kernel_rfl) ?_); (refine st rfl ?_; conv => arg 3; whnf)))
    have h1' : p.to = -1 ∨ p.er = 111 := by simpa [openF] using h1
    have e : sortF p = 1 := by unfold sortF; rw [if_neg h0, if_pos h1']
    rw [e]
    exact n_ret0 rfl rfl fun ids' w' hp hI' => ⟨rfl, hI'.frm⟩
  have h1' : ¬ (p.to = -1 ∨ p.er = 111) := by simpa [openF] using h1
  have h2 : openF p = false := by simpa using h1
  have hS : sortF p = if p.er = 0 ∨ p.er = 110 ∨ p.er = 100 ∨ p.er = 101 ∨ p.er = 70 then 2
      else if p.er = 61 ∧ (p.k = 1 ∨ p.k = 9 ∨ p.k = 10) then 2 else if p.er = 60 ∧ p.k = 8 then 2 else if p.er = 60 ∧ (p.k = 2 ∨ p.k = 3) then 1 else 0 := by unfold sortF; rw [if_neg h0, if_neg h1']
  (repeat ((first | refine n_must rfl ?_ | refine n_chk (drawF_ok (by decide +kernel)) ?_ | refine n_same rfl ?_ | ((first | refine n_must ?_ ?_ | refine n_brT ?_ ?_); (focus (first | (simp [h2]; done) | (simp [h2]; omega) | (simp only [h2]; simp; done)))) | (refine n_brF ?_ ?_; (focus (first | (simp [h2]; done) | (simp [h2]; omega) | (simp only [h2]; simp; done)))) | refine n_must (by (with_reducible refine and_shape ?_) <;> kernel_rfl) ?_); (refine st rfl ?_; conv => arg 3; whnf)))
  repeat' (first | (refine n_must rfl ?_; (refine st rfl ?_; conv => arg 3; whnf)) | (refine n_chk (drawF_ok (by decide +kernel)) ?_; (refine st rfl ?_; conv => arg 3; whnf)) | (refine n_same rfl ?_; (refine st rfl ?_; conv => arg 3; whnf)) | (refine n_brT ?_ ?_; (focus (simp [*]; done)); (refine st rfl ?_; conv => arg 3; whnf)) | (refine n_brF ?_ ?_; (focus (simp [*]; done)); (refine st rfl ?_; conv => arg 3; whnf)) | (refine n_br (fun hbr => ?_) (fun hbr => ?_) <;> (try simp at hbr) <;> (refine st rfl ?_; conv => arg 3; whnf)))
  all_goals refine n_ret0 rfl rfl fun ids' w' hp hI' => ⟨ret_int ?_, hI'.frm⟩
  all_goals (rw [hS]; clear hS; simp [*])
theorem explains_ok (e : Ef) (p : Pa) (w : World) : Calls Try.prog 39 #[e.val, p.val] w fun x w' => x = .returned (.bool (explF e p)) ∧ Frm [] w w' := by
  have hI := Inv.nil (P := Try.prog) (N := 45) (S := []) (os := []) w
  refine calls_sm (cx 45 [] [] w) (vals := [.agg e.sv, .agg p.sv]) mixed Try.func39 rfl rfl rfl hI rfl (st rfl ?_); conv => arg 3; whnf
  (repeat ((first | refine n_must rfl ?_ | refine n_chk (drawF_ok (by decide +kernel)) ?_ | refine n_same rfl ?_ | ((first | refine n_must ?_ ?_ | refine n_brT ?_ ?_); (focus (first | (simp; done) | (simp; omega)))) | (refine n_brF ?_ ?_; (focus (first | (simp; done) | (simp; omega)))) | refine n_must (by (with_reducible refine and_shape ?_) <;> kernel_rfl) ?_); (refine st rfl ?_; conv => arg 3; whnf)))
  by_cases q7 : p.k = e.k ∧ p.nm = e.nm ∧ p.a = e.a ∧ p.b = e.b
  · have q7' : e.k = p.k ∧ e.nm = p.nm ∧ e.a = p.a ∧ e.b = p.b := ⟨q7.1.symm, q7.2.1.symm, q7.2.2.1.symm, q7.2.2.2.symm⟩
    refine n_brF (by rw [op_eqB, decide_eq_true q7']; rfl) ?_
    (refine st rfl ?_; conv => arg 3; whnf)
    (repeat ((first | refine n_must rfl ?_ | refine n_chk (drawF_ok (by decide +kernel)) ?_ | refine n_same rfl ?_ | ((first | refine n_must ?_ ?_ | refine n_brT ?_ ?_); (focus (first | (simp; done) | (simp; omega)))) | (refine n_brF ?_ ?_; (focus (first | (simp; done) | (simp; omega)))) | refine n_must (by (with_reducible refine and_shape ?_) <;> kernel_rfl) ?_); (refine st rfl ?_; conv => arg 3; whnf)))
    refine n_sameP (.int .i64 (sortF p)) rfl rfl rfl (fun _ w1 hp1 hI1 => cSort_ok p w1) ?_; (refine st rfl ?_; conv => arg 3; whnf)
    by_cases q8 : sortF p = 0
    · (repeat ((first | refine n_must rfl ?_ | refine n_chk (drawF_ok (by decide +kernel)) ?_ | refine n_same rfl ?_ | ((first | refine n_must ?_ ?_ | refine n_brT ?_ ?_); (focus (first | (simp [q8]; done) | (simp [q8]; omega) | (simp only [q8]; simp; done)))) | (refine n_brF ?_ ?_; (focus (first | (simp [q8]; done) | (simp [q8]; omega) | (simp only [q8]; simp; done)))) | refine n_must (by (with_reducible refine and_shape ?_) <;> kernel_rfl) ?_); (refine st rfl ?_; conv => arg 3; whnf)))
      have e0 : explF e p = false := by rw [explF, decide_eq_true q8]; simp
      rw [e0]
      exact n_ret0 rfl rfl fun ids' w' hp hI' => ⟨rfl, hI'.frm⟩
    by_cases q9 : e.sp < p.fr
    · (repeat ((first | refine n_must rfl ?_ | refine n_chk (drawF_ok (by decide +kernel)) ?_ | refine n_same rfl ?_ | ((first | refine n_must ?_ ?_ | refine n_brT ?_ ?_); (focus (first | (simp [q8, q9]; done) | (simp [q8, q9]; omega) | (simp only [q8, q9]; simp; done)))) | (refine n_brF ?_ ?_; (focus (first | (simp [q8, q9]; done) | (simp [q8, q9]; omega) | (simp only [q8, q9]; simp; done)))) | refine n_must (by (with_reducible refine and_shape ?_) <;> kernel_rfl) ?_); (refine st rfl ?_; conv => arg 3; whnf)))
      have e0 : explF e p = false := by rw [explF, decide_eq_true q9]; simp
      rw [e0]
      exact n_ret0 rfl rfl fun ids' w' hp hI' => ⟨rfl, hI'.frm⟩
    (repeat ((first | refine n_must rfl ?_ | refine n_chk (drawF_ok (by decide +kernel)) ?_ | refine n_same rfl ?_ | ((first | refine n_must ?_ ?_ | refine n_brT ?_ ?_); (focus (first | (simp [q8, q9]; done) | (simp [q8, q9]; omega) | (simp only [q8, q9]; simp; done)))) | (refine n_brF ?_ ?_; (focus (first | (simp [q8, q9]; done) | (simp [q8, q9]; omega) | (simp only [q8, q9]; simp; done)))) | refine n_must (by (with_reducible refine and_shape ?_) <;> kernel_rfl) ?_); (refine st rfl ?_; conv => arg 3; whnf)))
    have hD : explF e p = (openF p || decide (e.sp ≤ p.to ∧ e.er = p.er ∧ e.va = p.va)) := by rw [explF, decide_eq_true q7, decide_eq_false q8, decide_eq_false q9]; simp
    refine n_sameP (.bool (openF p)) rfl rfl rfl (fun _ w1 hp1 hI1 => cOpen_ok p w1) ?_; (refine st rfl ?_; conv => arg 3; whnf)
    by_cases q10 : openF p = true
    · (repeat ((first | refine n_must rfl ?_ | refine n_chk (drawF_ok (by decide +kernel)) ?_ | refine n_same rfl ?_ | ((first | refine n_must ?_ ?_ | refine n_brT ?_ ?_); (focus (first | (simp [q10]; done) | (simp [q10]; omega) | (simp only [q10]; simp; done)))) | (refine n_brF ?_ ?_; (focus (first | (simp [q10]; done) | (simp [q10]; omega) | (simp only [q10]; simp; done)))) | refine n_must (by (with_reducible refine and_shape ?_) <;> kernel_rfl) ?_); (refine st rfl ?_; conv => arg 3; whnf)))
      rw [hD, q10]
      exact n_ret0 rfl rfl fun ids' w' hp hI' => ⟨rfl, hI'.frm⟩
    have q10' : openF p = false := by simpa using q10
    rw [q10', Bool.false_or] at hD
    by_cases q11 : e.sp ≤ p.to
    · by_cases q12 : e.er = p.er
      · (repeat ((first | refine n_must rfl ?_ | refine n_chk (drawF_ok (by decide +kernel)) ?_ | refine n_same rfl ?_ | ((first | refine n_must ?_ ?_ | refine n_brT ?_ ?_); (focus (first | (simp [q10', q11, q12]; done) | (simp [q10', q11, q12]; omega) | (simp only [q10', q11, q12]; simp; done)))) | (refine n_brF ?_ ?_; (focus (first | (simp [q10', q11, q12]; done) | (simp [q10', q11, q12]; omega) | (simp only [q10', q11, q12]; simp; done)))) | refine n_must (by (with_reducible refine and_shape ?_) <;> kernel_rfl) ?_); (refine st rfl ?_; conv => arg 3; whnf)))
        refine n_ret0 rfl rfl fun ids' w' hp hI' => ⟨ret_bool ?_, hI'.frm⟩
        rw [hD, Bool.eq_iff_iff]; simp [q11, q12]
      · (repeat ((first | refine n_must rfl ?_ | refine n_chk (drawF_ok (by decide +kernel)) ?_ | refine n_same rfl ?_ | ((first | refine n_must ?_ ?_ | refine n_brT ?_ ?_); (focus (first | (simp [q10', q11, q12]; done) | (simp [q10', q11, q12]; omega) | (simp only [q10', q11, q12]; simp; done)))) | (refine n_brF ?_ ?_; (focus (first | (simp [q10', q11, q12]; done) | (simp [q10', q11, q12]; omega) | (simp only [q10', q11, q12]; simp; done)))) | refine n_must (by (with_reducible refine and_shape ?_) <;> kernel_rfl) ?_); (refine st rfl ?_; conv => arg 3; whnf)))
        have e0 : explF e p = false := by rw [hD, decide_eq_false fun h => q12 h.2.1]
        rw [e0]
        exact n_ret0 rfl rfl fun ids' w' hp hI' => ⟨rfl, hI'.frm⟩
    · (repeat ((first | refine n_must rfl ?_ | refine n_chk (drawF_ok (by decide +kernel)) ?_ | refine n_same rfl ?_ | ((first | refine n_must ?_ ?_ | refine n_brT ?_ ?_); (focus (first | (simp [q10', q11]; done) | (simp [q10', q11]; omega) | (simp only [q10', q11]; simp; done)))) | (refine n_brF ?_ ?_; (focus (first | (simp [q10', q11]; done) | (simp [q10', q11]; omega) | (simp only [q10', q11]; simp; done)))) | refine n_must (by (with_reducible refine and_shape ?_) <;> kernel_rfl) ?_); (refine st rfl ?_; conv => arg 3; whnf)))
      have e0 : explF e p = false := by rw [hD, decide_eq_false fun h => q11 h.1]
      rw [e0]
      exact n_ret0 rfl rfl fun ids' w' hp hI' => ⟨rfl, hI'.frm⟩
  · have q7' : ¬ (e.k = p.k ∧ e.nm = p.nm ∧ e.a = p.a ∧ e.b = p.b) := fun h => q7 ⟨h.1.symm, h.2.1.symm, h.2.2.1.symm, h.2.2.2.symm⟩
    refine n_brT (by rw [op_eqB, decide_eq_false q7']; rfl) ?_
    (refine st rfl ?_; conv => arg 3; whnf)
    (repeat ((first | refine n_must rfl ?_ | refine n_chk (drawF_ok (by decide +kernel)) ?_ | refine n_same rfl ?_ | ((first | refine n_must ?_ ?_ | refine n_brT ?_ ?_); (focus (first | (simp; done) | (simp; omega)))) | (refine n_brF ?_ ?_; (focus (first | (simp; done) | (simp; omega)))) | refine n_must (by (with_reducible refine and_shape ?_) <;> kernel_rfl) ?_); (refine st rfl ?_; conv => arg 3; whnf)))
    have e0 : explF e p = false := by rw [explF, decide_eq_false q7]; simp
    rw [e0]
    exact n_ret0 rfl rfl fun ids' w' hp hI' => ⟨rfl, hI'.frm⟩

/-! ### places -/
def atF (L : List Pa) : List ((Int × Int) × Int) := L.zipIdx.map fun x => (x.1.call, (x.2 : Int))
theorem atF_next {L : List Pa} {i : Nat} {p : Pa} (h : L[i]? = some p) : atF (L.take (i + 1)) = atF (L.take i) ++ [(p.call, (i : Int))] := by
  have hi : i < L.length := (List.getElem?_eq_some_iff.1 h).1
  unfold atF
  rw [take_next h, List.zipIdx_append]
  simp
  omega
theorem atF_keys (L : List Pa) : (atF L).map (·.1) = calls L := by
  unfold atF calls
  rw [List.map_map]
  have : ((fun x => x.1) ∘ fun x : Pa × Nat => (x.1.call, (x.2 : Int))) = Pa.call ∘ Prod.fst := rfl
  rw [this, ← List.map_map]
  congr 1
  exact List.zipIdx_map_fst 0 L
theorem mget_isSome {κ ν : Type} [DecidableEq κ] {m : List (κ × ν)} {x : κ} : (mget m x).isSome = true ↔ x ∈ m.map (·.1) := by
  constructor
  · intro h
    obtain ⟨y, hy⟩ := Option.isSome_iff_exists.1 h
    exact List.mem_map.2 ⟨_, mget_some hy, rfl⟩
  · intro h
    cases hm : mget m x with
    | some _ => rfl
    | none =>
      obtain ⟨p, hp, e⟩ := List.mem_map.1 h
      exact absurd e (mget_none hm p hp)
theorem places_ok {o : Option Addr} {L : List Pa} {w : World} (cap : Nat) (hR : (paRes o L).R w) (hlt : ∀ x ∈ (paRes o L).fp, x < w.heap.size) (hl : L.length ≤ 9223372036854775806) (hi64 : ∀ p ∈ L, i64 p.se ∧ i64 p.id) :
    Calls Try.prog 29 #[.slice o L.length cap] w fun e w' => (rightH L = false ∧ e = .returned (.tuple #[.map none, .bool false]) ∧ Frm [] w w') ∨ (rightH L = true ∧ ∃ b : Nat, e = .returned (.tuple #[.map (some b), .bool true]) ∧ FreshR w w' (kmRes intV b (atF L))) := by
  have hI : Inv (cx 65 [] [] w) w [0] [⟨55, [.res (paRes o L)], false⟩] := (Inv.nil w).consR (by simp) hR hlt (by simp)
  refine calls_sm (cx 65 [] [] w) (vals := [.raw (.slice o L.length cap)]) mixed Try.func29 rfl rfl rfl hI rfl (st rfl ?_); conv => arg 3; whnf
  (repeat ((first | refine n_must rfl ?_ | refine n_chk (drawF_ok (by decide +kernel)) ?_ | refine n_same rfl ?_ | (refine n_brT ?_ ?_; (focus (simp <;> fail))) | (refine n_brF ?_ ?_; (focus (simp <;> fail)))); (refine st rfl ?_; conv => arg 3; whnf)))
  refine n_makeMap (fun b => kmRes intV b []) 69 rfl rfl rfl (fun _ => rfl) (fun w b h => MapOf.empty _ _ h) fun mb hmb => ?_
  (refine st rfl ?_; conv => arg 3; whnf)
  (repeat ((first | refine n_must rfl ?_ | refine n_chk (drawF_ok (by decide +kernel)) ?_ | refine n_same rfl ?_ | (refine n_brT ?_ ?_; (focus (simp <;> fail))) | (refine n_brF ?_ ?_; (focus (simp <;> fail)))); (refine st rfl ?_; conv => arg 3; whnf)))
  refine n_loop (σ := Nat) (fun i => [(4, .raw (.map (some mb))), (10, .raw (.slice o L.length cap)), (11, .int .i64 (L.length : Nat)), (12, .int .i64 (i : Nat))]) (fun i => [⟨55, [.res (paRes o L)], false⟩, ⟨69, [.res (kmRes intV mb (atF (L.take i)))], true⟩]) (fun i => i ≤ L.length ∧ ∀ j, j < i → okAt L j = true) (fun i => L.length - i) 0 mixed ⟨by omega, by intro j h; omega⟩ (fun _ _ => rfl) rfl (by (repeat (first | exact trivial | refine ⟨⟨rfl, rfl⟩, ?_⟩))) (fun s _ => ⟨by (repeat (first | exact trivial | refine ⟨⟨_, rfl⟩, ?_⟩)), by (repeat (first | exact trivial | refine ⟨⟨_, rfl⟩, ?_⟩))⟩) fun i hi => ?_
  obtain ⟨hi, hJ⟩ := hi
  (refine st rfl ?_; conv => arg 3; whnf)
  by_cases hlt2 : i < L.length
  · have ei : IntKind.i64.wrap ((i : Int) + 1) = ((i + 1 : Nat) : Int) := by rw [w64 (by omega) (by omega)]; simp
    obtain ⟨ad, rfl⟩ := rd_some pa_len (by omega) hR (by omega)
    have hx : L[i]? = some L[i] := List.getElem?_eq_getElem _
    have h64 := hi64 L[i] (List.getElem_mem hlt2)
    generalize L[i] = p at hx h64
    have hok : okAt L i = (okP p && !(calls (L.take i)).contains p.call) := by unfold okAt; rw [hx]
    have hnx := atF_next hx
    have hkey : (mget (atF (L.take i)) p.call).isSome = (calls (L.take i)).contains p.call := by
      rw [Bool.eq_iff_iff, mget_isSome, atF_keys]; simp
    generalize atF (L.take i) = m at hnx hkey
    (repeat ((first | refine n_must rfl ?_ | refine n_chk (drawF_ok (by decide +kernel)) ?_ | refine n_same rfl ?_ | ((first | refine n_must ?_ ?_ | refine n_brT ?_ ?_); (focus (first | (simp; done) | (simp; omega)))) | (refine n_brF ?_ ?_; (focus (first | (simp; done) | (simp; omega)))) | refine n_must (by (with_reducible refine and_shape ?_) <;> kernel_rfl) ?_); (refine st rfl ?_; conv => arg 3; whnf)))
    refine n_ldI (.agg p.sv) rfl rfl (fun _ w1 _ hI1 => pa_row (hI1.res 0 rfl rfl) hx rfl) ?_
    (refine st rfl ?_; conv => arg 3; whnf)
    (repeat ((first | refine n_must rfl ?_ | refine n_chk (drawF_ok (by decide +kernel)) ?_ | refine n_same rfl ?_ | ((first | refine n_must ?_ ?_ | refine n_brT ?_ ?_); (focus (first | (simp; done) | (simp; omega)))) | (refine n_brF ?_ ?_; (focus (first | (simp; done) | (simp; omega)))) | refine n_must (by (with_reducible refine and_shape ?_) <;> kernel_rfl) ?_); (refine st rfl ?_; conv => arg 3; whnf)))
    refine n_lookup (E := callE) (ev' := intV) (b := mb) (kr := .agg [.int .i64 p.se, .int .i64 p.id]) (zr := .int .i64 0) (z := .int .i64 0) m p.call (.tup [.int .i64 ((mget m p.call).getD 0), .bool (mget m p.call).isSome]) callK rfl rfl rfl rfl rfl rfl h64 rfl rfl (by cases mget m p.call <;> rfl) (fun _ w1 _ hI1 => by exact hI1.res 1 rfl rfl) ?_
    (refine st rfl ?_; conv => arg 3; whnf)
    rw [hkey]
    cases hct : (calls (L.take i)).contains p.call with
    | true =>
      (repeat ((first | refine n_must rfl ?_ | refine n_chk (drawF_ok (by decide +kernel)) ?_ | refine n_same rfl ?_ | ((first | refine n_must ?_ ?_ | refine n_brT ?_ ?_); (focus (first | (simp; done) | (simp; omega)))) | (refine n_brF ?_ ?_; (focus (first | (simp; done) | (simp; omega)))) | refine n_must (by (with_reducible refine and_shape ?_) <;> kernel_rfl) ?_); (refine st rfl ?_; conv => arg 3; whnf)))
      refine n_leave ?_
      refine n_ret0 rfl rfl fun ids' w' hp hI' => .inl ⟨rightH_false (i := i) (by rw [hok, hct]; simp), rfl, hI'.frm⟩
    | false =>
      by_cases q1 : p.k < 1
      · have hpk : okP p = false := by simp only [okP, decide_eq_false_iff_not]; omega
        (repeat ((first | refine n_must rfl ?_ | refine n_chk (drawF_ok (by decide +kernel)) ?_ | refine n_same rfl ?_ | ((first | refine n_must ?_ ?_ | refine n_brT ?_ ?_); (focus (first | (simp [q1]; done) | (simp [q1]; omega) | (simp only [q1]; simp; done)))) | (refine n_brF ?_ ?_; (focus (first | (simp [q1]; done) | (simp [q1]; omega) | (simp only [q1]; simp; done)))) | refine n_must (by (with_reducible refine and_shape ?_) <;> kernel_rfl) ?_); (refine st rfl ?_; conv => arg 3; whnf)))
        refine n_leave ?_
        refine n_ret0 rfl rfl fun ids' w' hp hI' => .inl ⟨rightH_false (i := i) (by rw [hok, hpk]; rfl), rfl, hI'.frm⟩
      by_cases q2 : 11 < p.k
      · have hpk : okP p = false := by simp only [okP, decide_eq_false_iff_not]; omega
        (repeat ((first | refine n_must rfl ?_ | refine n_chk (drawF_ok (by decide +kernel)) ?_ | refine n_same rfl ?_ | ((first | refine n_must ?_ ?_ | refine n_brT ?_ ?_); (focus (first | (simp [q1, q2]; done) | (simp [q1, q2]; omega) | (simp only [q1, q2]; simp; done)))) | (refine n_brF ?_ ?_; (focus (first | (simp [q1, q2]; done) | (simp [q1, q2]; omega) | (simp only [q1, q2]; simp; done)))) | refine n_must (by (with_reducible refine and_shape ?_) <;> kernel_rfl) ?_); (refine st rfl ?_; conv => arg 3; whnf)))
        refine n_leave ?_
        refine n_ret0 rfl rfl fun ids' w' hp hI' => .inl ⟨rightH_false (i := i) (by rw [hok, hpk]; rfl), rfl, hI'.frm⟩
      by_cases q3 : p.fr < 0
      · have hpk : okP p = false := by simp only [okP, decide_eq_false_iff_not]; omega
        (repeat ((first | refine n_must rfl ?_ | refine n_chk (drawF_ok (by decide +kernel)) ?_ | refine n_same rfl ?_ | ((first | refine n_must ?_ ?_ | refine n_brT ?_ ?_); (focus (first | (simp [q1, q2, q3]; done) | (simp [q1, q2, q3]; omega) | (simp only [q1, q2, q3]; simp; done)))) | (refine n_brF ?_ ?_; (focus (first | (simp [q1, q2, q3]; done) | (simp [q1, q2, q3]; omega) | (simp only [q1, q2, q3]; simp; done)))) | refine n_must (by (with_reducible refine and_shape ?_) <;> kernel_rfl) ?_); (refine st rfl ?_; conv => arg 3; whnf)))
        refine n_leave ?_
        refine n_ret0 rfl rfl fun ids' w' hp hI' => .inl ⟨rightH_false (i := i) (by rw [hok, hpk]; rfl), rfl, hI'.frm⟩
      by_cases q4 : p.to < -1
      · have hpk : okP p = false := by simp only [okP, decide_eq_false_iff_not]; omega
        (repeat ((first | refine n_must rfl ?_ | refine n_chk (drawF_ok (by decide +kernel)) ?_ | refine n_same rfl ?_ | ((first | refine n_must ?_ ?_ | refine n_brT ?_ ?_); (focus (first | (simp [q1, q2, q3, q4]; done) | (simp [q1, q2, q3, q4]; omega) | (simp only [q1, q2, q3, q4]; simp; done)))) | (refine n_brF ?_ ?_; (focus (first | (simp [q1, q2, q3, q4]; done) | (simp [q1, q2, q3, q4]; omega) | (simp only [q1, q2, q3, q4]; simp; done)))) | refine n_must (by (with_reducible refine and_shape ?_) <;> kernel_rfl) ?_); (refine st rfl ?_; conv => arg 3; whnf)))
        refine n_leave ?_
        refine n_ret0 rfl rfl fun ids' w' hp hI' => .inl ⟨rightH_false (i := i) (by rw [hok, hpk]; rfl), rfl, hI'.frm⟩
      by_cases q5 : 0 ≤ p.to
      · by_cases q6 : p.to < p.fr
        · have hpk : okP p = false := by simp only [okP, decide_eq_false_iff_not]; omega
          (repeat ((first | refine n_must rfl ?_ | refine n_chk (drawF_ok (by decide +kernel)) ?_ | refine n_same rfl ?_ | ((first | refine n_must ?_ ?_ | refine n_brT ?_ ?_); (focus (first | (simp [q1, q2, q3, q4, q5, q6]; done) | (simp [q1, q2, q3, q4, q5, q6]; omega) | (simp only [q1, q2, q3, q4, q5, q6]; simp; done)))) | (refine n_brF ?_ ?_; (focus (first | (simp [q1, q2, q3, q4, q5, q6]; done) | (simp [q1, q2, q3, q4, q5, q6]; omega) | (simp only [q1, q2, q3, q4, q5, q6]; simp; done)))) | refine n_must (by (with_reducible refine and_shape ?_) <;> kernel_rfl) ?_); (refine st rfl ?_; conv => arg 3; whnf)))
          refine n_leave ?_
          refine n_ret0 rfl rfl fun ids' w' hp hI' => .inl ⟨rightH_false (i := i) (by rw [hok, hpk]; rfl), rfl, hI'.frm⟩
        · have hpk : okP p = true := by simp only [okP, decide_eq_true_eq]; omega
          (repeat ((first | refine n_must rfl ?_ | refine n_chk (drawF_ok (by decide +kernel)) ?_ | refine n_same rfl ?_ | ((first | refine n_must ?_ ?_ | refine n_brT ?_ ?_); (focus (first | (simp [q1, q2, q3, q4, q5, q6]; done) | (simp [q1, q2, q3, q4, q5, q6]; omega) | (simp only [q1, q2, q3, q4, q5, q6]; simp; done)))) | (refine n_brF ?_ ?_; (focus (first | (simp [q1, q2, q3, q4, q5, q6]; done) | (simp [q1, q2, q3, q4, q5, q6]; omega) | (simp only [q1, q2, q3, q4, q5, q6]; simp; done)))) | refine n_must (by (with_reducible refine and_shape ?_) <;> kernel_rfl) ?_); (refine st rfl ?_; conv => arg 3; whnf)))
          have hmem : ∀ x ∈ m, x.1 ≠ p.call := fun x hx e => by
            have h1 : (mget m p.call).isSome = true := mget_isSome.2 (List.mem_map.2 ⟨x, hx, e⟩)
            rw [hkey, hct] at h1; cases h1
          refine n_mapUpdate (E := callE) (ev' := intV) (i := 1) (b := mb) (kr := .agg [.int .i64 p.se, .int .i64 p.id]) (vr := .int .i64 (i : Nat)) (ρ := kmRes intV mb m) (kmRes intV mb (m ++ [(p.call, (i : Int))])) m p.call (i : Int) callK rfl rfl rfl rfl rfl rfl h64 rfl rfl rfl rfl rfl (by simp [kmRes]) rfl (fun _ _ _ _ h => by exact h) (fun _ _ _ _ _ _ _ h => by rw [(mput_new hmem).2.1] at h; exact h) ?_
          (refine st rfl ?_; conv => arg 3; whnf)
          (repeat ((first | refine n_must rfl ?_ | refine n_chk (drawF_ok (by decide +kernel)) ?_ | refine n_same rfl ?_ | ((first | refine n_must ?_ ?_ | refine n_brT ?_ ?_); (focus (first | (simp; done) | (simp; omega)))) | (refine n_brF ?_ ?_; (focus (first | (simp; done) | (simp; omega)))) | refine n_must (by (with_reducible refine and_shape ?_) <;> kernel_rfl) ?_); (refine st rfl ?_; conv => arg 3; whnf)))
          refine n_again ⟨i + 1, ⟨by omega, fun j hj => ?_⟩, by omega, (by (repeat (first | exact trivial | refine ⟨⟨rfl, rfl⟩, ?_⟩ | refine ⟨⟨rfl, congrArg (SV.int .i64) ei⟩, ?_⟩))), ?_⟩
          · by_cases e : j = i
            · subst e; rw [hok, hpk, hct]; rfl
            · exact hJ j (by omega)
          · rw [hnx]; exact ⟨_, rfl⟩
      · have hpk : okP p = true := by simp only [okP, decide_eq_true_eq]; omega
        (repeat ((first | refine n_must rfl ?_ | refine n_chk (drawF_ok (by decide +kernel)) ?_ | refine n_same rfl ?_ | ((first | refine n_must ?_ ?_ | refine n_brT ?_ ?_); (focus (first | (simp [q1, q2, q3, q4, q5]; done) | (simp [q1, q2, q3, q4, q5]; omega) | (simp only [q1, q2, q3, q4, q5]; simp; done)))) | (refine n_brF ?_ ?_; (focus (first | (simp [q1, q2, q3, q4, q5]; done) | (simp [q1, q2, q3, q4, q5]; omega) | (simp only [q1, q2, q3, q4, q5]; simp; done)))) | refine n_must (by (with_reducible refine and_shape ?_) <;> kernel_rfl) ?_); (refine st rfl ?_; conv => arg 3; whnf)))
        have hmem : ∀ x ∈ m, x.1 ≠ p.call := fun x hx e => by
          have h1 : (mget m p.call).isSome = true := mget_isSome.2 (List.mem_map.2 ⟨x, hx, e⟩)
          rw [hkey, hct] at h1; cases h1
        refine n_mapUpdate (E := callE) (ev' := intV) (i := 1) (b := mb) (kr := .agg [.int .i64 p.se, .int .i64 p.id]) (vr := .int .i64 (i : Nat)) (ρ := kmRes intV mb m) (kmRes intV mb (m ++ [(p.call, (i : Int))])) m p.call (i : Int) callK rfl rfl rfl rfl rfl rfl h64 rfl rfl rfl rfl rfl (by simp [kmRes]) rfl (fun _ _ _ _ h => by exact h) (fun _ _ _ _ _ _ _ h => by rw [(mput_new hmem).2.1] at h; exact h) ?_
        (refine st rfl ?_; conv => arg 3; whnf)
        (repeat ((first | refine n_must rfl ?_ | refine n_chk (drawF_ok (by decide +kernel)) ?_ | refine n_same rfl ?_ | ((first | refine n_must ?_ ?_ | refine n_brT ?_ ?_); (focus (first | (simp; done) | (simp; omega)))) | (refine n_brF ?_ ?_; (focus (first | (simp; done) | (simp; omega)))) | refine n_must (by (with_reducible refine and_shape ?_) <;> kernel_rfl) ?_); (refine st rfl ?_; conv => arg 3; whnf)))
        refine n_again ⟨i + 1, ⟨by omega, fun j hj => ?_⟩, by omega, (by (repeat (first | exact trivial | refine ⟨⟨rfl, rfl⟩, ?_⟩ | refine ⟨⟨rfl, congrArg (SV.int .i64) ei⟩, ?_⟩))), ?_⟩
        · by_cases e : j = i
          · subst e; rw [hok, hpk, hct]; rfl
          · exact hJ j (by omega)
        · rw [hnx]; exact ⟨_, rfl⟩
  · obtain rfl : i = L.length := by omega
    rw [List.take_length]
    (repeat ((first | refine n_must rfl ?_ | refine n_chk (drawF_ok (by decide +kernel)) ?_ | refine n_same rfl ?_ | ((first | refine n_must ?_ ?_ | refine n_brT ?_ ?_); (focus (first | (simp; done) | (simp; omega)))) | (refine n_brF ?_ ?_; (focus (first | (simp; done) | (simp; omega)))) | refine n_must (by (with_reducible refine and_shape ?_) <;> kernel_rfl) ?_); (refine st rfl ?_; conv => arg 3; whnf)))
    refine n_exit rfl ?_
    (refine st rfl ?_; conv => arg 3; whnf)
    (repeat ((first | refine n_must rfl ?_ | refine n_chk (drawF_ok (by decide +kernel)) ?_ | refine n_same rfl ?_ | ((first | refine n_must ?_ ?_ | refine n_brT ?_ ?_); (focus (first | (simp; done) | (simp; omega)))) | (refine n_brF ?_ ?_; (focus (first | (simp; done) | (simp; omega)))) | refine n_must (by (with_reducible refine and_shape ?_) <;> kernel_rfl) ?_); (refine st rfl ?_; conv => arg 3; whnf)))
    exact n_ret0 rfl rfl fun ids' w' hp hI' => .inr ⟨rightH_true hJ, mb, rfl, hI'.frm, hI'.res 1 rfl rfl, hI'.res_new 1 rfl rfl rfl (by simp), hI'.resLt 1 rfl rfl⟩
end Go.Proofs.Ytfcbcgjgkleonaa
