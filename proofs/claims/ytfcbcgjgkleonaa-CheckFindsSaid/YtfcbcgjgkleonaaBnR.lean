/- Package check: open, sortOf, explains, places. Package check: Verify. -/
import Derived.Test.YtfcbcgjgkleonaaCkK
import Derived.DeepKeys4
namespace Go.Proofs.Ytfcbcgjgkleonaa
section
set_option maxRecDepth 100000
set_option linter.unusedSimpArgs false
set_option linter.unusedVariables false
set_option maxHeartbeats 8000000
open Go.RowKit
open Go.Maps (Keyed)

/-! ### Keys -/
theorem cellsCall : Try.prog.cellsOf 48 = 2 := by kernel_rfl
theorem wideCall : (match Try.prog.underlying 48 with | some (.array _ _) | some (.struct _) => true | _ => false) = true := by rw [Try.underlying48]
theorem callK : Keyed Try.prog 48 := Keyed.of_law (deep_law_laid (by kernel_rfl) (m := 3) (by omega) (of_decide_eq_true (by kernel_rfl)) (by kernel_rfl) wideCall)
theorem callTy : Try.prog.keyType 48 = true := by kernel_rfl
theorem typesN : ∃ n, Try.prog.types.size = n + 1 := ⟨Try.prog.types.size - 1, (Nat.sub_add_cancel (of_decide_eq_true (by kernel_rfl : decide (1 ≤ Try.prog.types.size) = true))).symm⟩
theorem call_of {r s : Int} (hr : i64 r) (hs : i64 s) : ∃ l, keyOf Try.prog 48 (.agg #[.int .i64 r, .int .i64 s]) = some l := by
  have hw := wf_of_i64 hr
  have hw2 := wf_of_i64 hs
  have hf : (Value.agg #[.int .i64 r, .int .i64 s]).formed Try.prog 48 = true := by simp [Value.formed, Try.underlying48, cellsCall]
  have hci : Try.prog.cellsOf 3 = 1 := by kernel_rfl
  obtain ⟨n, hn⟩ := typesN
  unfold keyOf
  simp only [Try.underlying48, callTy, hf, Bool.and_self, if_true, Value.cells, hn]
  simp only [Program.keyLits, Try.underlying48, cellsCall]
  simp [hci, Try.underlying3, hw, hw2]
def callE : KeyEnc Try.prog 48 (Int × Int) where
  ek x := .agg #[.int .i64 x.1, .int .i64 x.2]
  ok x := i64 x.1 ∧ i64 x.2
  key x hx := call_of hx.1 hx.2
  inj x y h := by
    simp only [Value.agg.injEq] at h
    simp at h
    exact Prod.ext h.1 h.2
/-- A map of calls, as a part. -/
def kmRes {ν : Type} (ev : ν → Value) (b : Nat) (m : List ((Int × Int) × ν)) : Res where
  fp := [b]
  R w := MapOf callE ev w b m
  stable := fun w w' hk h => h.keep (hk b (by simp))

/-! ### open, sortOf, explains -/
theorem cOpen_ok (p : Pa) (w : World) : Calls Try.prog 45 #[p.val] w fun e w' => e = .returned (.bool (openF p)) ∧ Frm [] w w' := by
  have hI := Inv.nil (P := Try.prog) (N := 11) (S := []) (os := []) w
  refine calls_sm (cx 11 [] [] w) (vals := [.agg p.sv]) mixed Try.func45 rfl rfl rfl hI rfl (st rfl ?_); conv => arg 3; whnf
  (repeat' (first | ((first | refine n_must rfl ?_ | refine n_chk (drawF_ok (by decide +kernel)) ?_ | refine n_same rfl ?_); (refine gs ?_)) | (((first | ((first | refine n_must ?_ ?_ | refine n_brT ?_ ?_); (focus (first | (simp; done) | (simp; omega)))) | (refine n_brF ?_ ?_; (focus (first | (simp; done) | (simp; omega)))))); (refine gs ?_)) | (refine n_br (fun hbr => ?_) (fun hbr => ?_) <;> simp at hbr <;> (refine gs ?_))))
  all_goals refine n_ret0 rfl rfl fun ids' w' hp hI' => ⟨ret_bool ?_, hI'.frm⟩
  all_goals first | (simp [openF, *]; done) | (rw [Bool.eq_iff_iff]; simp [openF, *])
theorem cSort_ok (p : Pa) (w : World) : Calls Try.prog 30 #[p.val] w fun e w' => e = .returned (.int .i64 (sortF p)) ∧ Frm [] w w' := by
  have hI := Inv.nil (P := Try.prog) (N := 41) (S := []) (os := []) w
  refine calls_sm (cx 41 [] [] w) (vals := [.agg p.sv]) mixed Try.func30 rfl rfl rfl hI rfl (st rfl ?_); conv => arg 3; whnf
  by_cases h0 : p.k = 11
  · (repeat ((first | refine n_must rfl ?_ | refine n_chk (drawF_ok (by decide +kernel)) ?_ | refine n_same rfl ?_ | ((first | refine n_must ?_ ?_ | refine n_brT ?_ ?_); (focus (first | (simp [h0]; done) | (simp [h0]; omega) | (simp only [h0]; simp; done)))) | (refine n_brF ?_ ?_; (focus (first | (simp [h0]; done) | (simp [h0]; omega) | (simp only [h0]; simp; done)))) | refine n_must (by (with_reducible refine and_shape ?_) <;> kernel_rfl) ?_); (refine gs ?_)))
    have e : sortF p = 0 := by simp [sortF, h0]
    rw [e]
    exact n_ret0 rfl rfl fun ids' w' hp hI' => ⟨rfl, hI'.frm⟩
  (repeat ((first | refine n_must rfl ?_ | refine n_chk (drawF_ok (by decide +kernel)) ?_ | refine n_same rfl ?_ | ((first | refine n_must ?_ ?_ | refine n_brT ?_ ?_); (focus (first | (simp [h0]; done) | (simp [h0]; omega) | (simp only [h0]; simp; done)))) | (refine n_brF ?_ ?_; (focus (first | (simp [h0]; done) | (simp [h0]; omega) | (simp only [h0]; simp; done)))) | refine n_must (by (with_reducible refine and_shape ?_) <;> kernel_rfl) ?_); (refine gs ?_)))
  refine n_sameP (.bool (openF p)) rfl rfl rfl (fun _ w1 hp1 hI1 => cOpen_ok p w1) ?_; (refine gs ?_)
  by_cases h1 : openF p = true
  · (repeat ((first | refine n_must rfl ?_ | refine n_chk (drawF_ok (by decide +kernel)) ?_ | refine n_same rfl ?_ | ((first | refine n_must ?_ ?_ | refine n_brT ?_ ?_); (focus (first | (simp [h1]; done) | (simp [h1]; omega) | (simp only [h1]; simp; done)))) | (refine n_brF ?_ ?_; (focus (first | (simp [h1]; done) | (simp [h1]; omega) | (simp only [h1]; simp; done)))) | refine n_must (by (with_reducible refine and_shape ?_) <;> kernel_rfl) ?_); (refine gs ?_)))
    have h1' : p.to = -1 ∨ p.er = 111 := by simpa [openF] using h1
    have e : sortF p = 1 := by unfold sortF; rw [if_neg h0, if_pos h1']
    rw [e]
    exact n_ret0 rfl rfl fun ids' w' hp hI' => ⟨rfl, hI'.frm⟩
  have h1' : ¬ (p.to = -1 ∨ p.er = 111) := by simpa [openF] using h1
  have h2 : openF p = false := by simpa using h1
  have hS : sortF p = if p.er = 0 ∨ p.er = 110 ∨ p.er = 100 ∨ p.er = 101 ∨ p.er = 70 then 2
      else if p.er = 61 ∧ (p.k = 1 ∨ p.k = 9 ∨ p.k = 10) then 2 else if p.er = 60 ∧ p.k = 8 then 2 else if p.er = 60 ∧ (p.k = 2 ∨ p.k = 3) then 1 else 0 := by unfold sortF; rw [if_neg h0, if_neg h1']
  (repeat ((first | refine n_must rfl ?_ | refine n_chk (drawF_ok (by decide +kernel)) ?_ | refine n_same rfl ?_ | ((first | refine n_must ?_ ?_ | refine n_brT ?_ ?_); (focus (first | (simp [h2]; done) | (simp [h2]; omega) | (simp only [h2]; simp; done)))) | (refine n_brF ?_ ?_; (focus (first | (simp [h2]; done) | (simp [h2]; omega) | (simp only [h2]; simp; done)))) | refine n_must (by (with_reducible refine and_shape ?_) <;> kernel_rfl) ?_); (refine gs ?_)))
  repeat' (first | (refine n_must rfl ?_; (refine gs ?_)) | (refine n_chk (drawF_ok (by decide +kernel)) ?_; (refine gs ?_)) | (refine n_same rfl ?_; (refine gs ?_)) | (refine n_brT ?_ ?_; (focus (simp [*]; done)); (refine gs ?_)) | (refine n_brF ?_ ?_; (focus (simp [*]; done)); (refine gs ?_)) | (refine n_br (fun hbr => ?_) (fun hbr => ?_) <;> (try simp at hbr) <;> (refine gs ?_)))
  all_goals refine n_ret0 rfl rfl fun ids' w' hp hI' => ⟨ret_int ?_, hI'.frm⟩
  all_goals (rw [hS]; clear hS; simp [*])
theorem explains_ok (e : Ef) (p : Pa) (w : World) : Calls Try.prog 39 #[e.val, p.val] w fun x w' => x = .returned (.bool (explF e p)) ∧ Frm [] w w' := by
  have hI := Inv.nil (P := Try.prog) (N := 45) (S := []) (os := []) w
  refine calls_sm (cx 45 [] [] w) (vals := [.agg e.sv, .agg p.sv]) mixed Try.func39 rfl rfl rfl hI rfl (st rfl ?_); conv => arg 3; whnf
  refine gw ?_
  by_cases q7 : p.k = e.k ∧ p.nm = e.nm ∧ p.a = e.a ∧ p.b = e.b
  · have q7' : e.k = p.k ∧ e.nm = p.nm ∧ e.a = p.a ∧ e.b = p.b := ⟨q7.1.symm, q7.2.1.symm, q7.2.2.1.symm, q7.2.2.2.symm⟩
    refine n_brF (by rw [op_eqB, decide_eq_true q7']; rfl) ?_
    (refine gs ?_)
    refine gw ?_
    refine n_sameP (.int .i64 (sortF p)) rfl rfl rfl (fun _ w1 hp1 hI1 => cSort_ok p w1) ?_; (refine gs ?_)
    by_cases q8 : sortF p = 0
    · (repeat ((first | refine n_must rfl ?_ | refine n_chk (drawF_ok (by decide +kernel)) ?_ | refine n_same rfl ?_ | ((first | refine n_must ?_ ?_ | refine n_brT ?_ ?_); (focus (first | (simp [q8]; done) | (simp [q8]; omega) | (simp only [q8]; simp; done)))) | (refine n_brF ?_ ?_; (focus (first | (simp [q8]; done) | (simp [q8]; omega) | (simp only [q8]; simp; done)))) | refine n_must (by (with_reducible refine and_shape ?_) <;> kernel_rfl) ?_); (refine gs ?_)))
      have e0 : explF e p = false := by rw [explF, decide_eq_true q8]; simp
      rw [e0]
      exact n_ret0 rfl rfl fun ids' w' hp hI' => ⟨rfl, hI'.frm⟩
    by_cases q9 : e.sp < p.fr
    · (repeat ((first | refine n_must rfl ?_ | refine n_chk (drawF_ok (by decide +kernel)) ?_ | refine n_same rfl ?_ | ((first | refine n_must ?_ ?_ | refine n_brT ?_ ?_); (focus (first | (simp [q8, q9]; done) | (simp [q8, q9]; omega) | (simp only [q8, q9]; simp; done)))) | (refine n_brF ?_ ?_; (focus (first | (simp [q8, q9]; done) | (simp [q8, q9]; omega) | (simp only [q8, q9]; simp; done)))) | refine n_must (by (with_reducible refine and_shape ?_) <;> kernel_rfl) ?_); (refine gs ?_)))
      have e0 : explF e p = false := by rw [explF, decide_eq_true q9]; simp
      rw [e0]
      exact n_ret0 rfl rfl fun ids' w' hp hI' => ⟨rfl, hI'.frm⟩
    (repeat ((first | refine n_must rfl ?_ | refine n_chk (drawF_ok (by decide +kernel)) ?_ | refine n_same rfl ?_ | ((first | refine n_must ?_ ?_ | refine n_brT ?_ ?_); (focus (first | (simp [q8, q9]; done) | (simp [q8, q9]; omega) | (simp only [q8, q9]; simp; done)))) | (refine n_brF ?_ ?_; (focus (first | (simp [q8, q9]; done) | (simp [q8, q9]; omega) | (simp only [q8, q9]; simp; done)))) | refine n_must (by (with_reducible refine and_shape ?_) <;> kernel_rfl) ?_); (refine gs ?_)))
    have hD : explF e p = (openF p || decide (e.sp ≤ p.to ∧ e.er = p.er ∧ e.va = p.va)) := by rw [explF, decide_eq_true q7, decide_eq_false q8, decide_eq_false q9]; simp
    refine n_sameP (.bool (openF p)) rfl rfl rfl (fun _ w1 hp1 hI1 => cOpen_ok p w1) ?_; (refine gs ?_)
    by_cases q10 : openF p = true
    · (repeat ((first | refine n_must rfl ?_ | refine n_chk (drawF_ok (by decide +kernel)) ?_ | refine n_same rfl ?_ | ((first | refine n_must ?_ ?_ | refine n_brT ?_ ?_); (focus (first | (simp [q10]; done) | (simp [q10]; omega) | (simp only [q10]; simp; done)))) | (refine n_brF ?_ ?_; (focus (first | (simp [q10]; done) | (simp [q10]; omega) | (simp only [q10]; simp; done)))) | refine n_must (by (with_reducible refine and_shape ?_) <;> kernel_rfl) ?_); (refine gs ?_)))
      rw [hD, q10]
      exact n_ret0 rfl rfl fun ids' w' hp hI' => ⟨rfl, hI'.frm⟩
    have q10' : openF p = false := by simpa using q10
    rw [q10', Bool.false_or] at hD
    by_cases q11 : e.sp ≤ p.to
    · by_cases q12 : e.er = p.er
      · (repeat ((first | refine n_must rfl ?_ | refine n_chk (drawF_ok (by decide +kernel)) ?_ | refine n_same rfl ?_ | ((first | refine n_must ?_ ?_ | refine n_brT ?_ ?_); (focus (first | (simp [q10', q11, q12]; done) | (simp [q10', q11, q12]; omega) | (simp only [q10', q11, q12]; simp; done)))) | (refine n_brF ?_ ?_; (focus (first | (simp [q10', q11, q12]; done) | (simp [q10', q11, q12]; omega) | (simp only [q10', q11, q12]; simp; done)))) | refine n_must (by (with_reducible refine and_shape ?_) <;> kernel_rfl) ?_); (refine gs ?_)))
        refine n_ret0 rfl rfl fun ids' w' hp hI' => ⟨ret_bool ?_, hI'.frm⟩
        rw [hD, Bool.eq_iff_iff]; simp [q11, q12]
      · (repeat ((first | refine n_must rfl ?_ | refine n_chk (drawF_ok (by decide +kernel)) ?_ | refine n_same rfl ?_ | ((first | refine n_must ?_ ?_ | refine n_brT ?_ ?_); (focus (first | (simp [q10', q11, q12]; done) | (simp [q10', q11, q12]; omega) | (simp only [q10', q11, q12]; simp; done)))) | (refine n_brF ?_ ?_; (focus (first | (simp [q10', q11, q12]; done) | (simp [q10', q11, q12]; omega) | (simp only [q10', q11, q12]; simp; done)))) | refine n_must (by (with_reducible refine and_shape ?_) <;> kernel_rfl) ?_); (refine gs ?_)))
        have e0 : explF e p = false := by rw [hD, decide_eq_false fun h => q12 h.2.1]
        rw [e0]
        exact n_ret0 rfl rfl fun ids' w' hp hI' => ⟨rfl, hI'.frm⟩
    · (repeat ((first | refine n_must rfl ?_ | refine n_chk (drawF_ok (by decide +kernel)) ?_ | refine n_same rfl ?_ | ((first | refine n_must ?_ ?_ | refine n_brT ?_ ?_); (focus (first | (simp [q10', q11]; done) | (simp [q10', q11]; omega) | (simp only [q10', q11]; simp; done)))) | (refine n_brF ?_ ?_; (focus (first | (simp [q10', q11]; done) | (simp [q10', q11]; omega) | (simp only [q10', q11]; simp; done)))) | refine n_must (by (with_reducible refine and_shape ?_) <;> kernel_rfl) ?_); (refine gs ?_)))
      have e0 : explF e p = false := by rw [hD, decide_eq_false fun h => q11 h.1]
      rw [e0]
      exact n_ret0 rfl rfl fun ids' w' hp hI' => ⟨rfl, hI'.frm⟩
  · have q7' : ¬ (e.k = p.k ∧ e.nm = p.nm ∧ e.a = p.a ∧ e.b = p.b) := fun h => q7 ⟨h.1.symm, h.2.1.symm, h.2.2.1.symm, h.2.2.2.symm⟩
    refine n_brT (by rw [op_eqB, decide_eq_false q7']; rfl) ?_
    (refine gs ?_)
    refine gw ?_
    have e0 : explF e p = false := by rw [explF, decide_eq_false q7]; simp
    rw [e0]
    exact n_ret0 rfl rfl fun ids' w' hp hI' => ⟨rfl, hI'.frm⟩

/-! ### places -/
def atF (L : List Pa) : List ((Int × Int) × Int) := L.zipIdx.map fun x => (x.1.call, (x.2 : Int))
theorem atF_next {L : List Pa} {i : Nat} {p : Pa} (h : L[i]? = some p) : atF (L.take (i + 1)) = atF (L.take i) ++ [(p.call, (i : Int))] := by
  have hi : i < L.length := (List.getElem?_eq_some_iff.1 h).1
  unfold atF
  rw [take_next h, List.zipIdx_append]
  simp
  omega
theorem atF_keys (L : List Pa) : (atF L).map (·.1) = calls L := by
  unfold atF calls
  rw [List.map_map]
  have : ((fun x => x.1) ∘ fun x : Pa × Nat => (x.1.call, (x.2 : Int))) = Pa.call ∘ Prod.fst := rfl
  rw [this, ← List.map_map]
  congr 1
  exact List.zipIdx_map_fst 0 L
theorem mget_isSome {κ ν : Type} [DecidableEq κ] {m : List (κ × ν)} {x : κ} : (mget m x).isSome = true ↔ x ∈ m.map (·.1) := by
  constructor
  · intro h
    obtain ⟨y, hy⟩ := Option.isSome_iff_exists.1 h
    exact List.mem_map.2 ⟨_, mget_some hy, rfl⟩
  · intro h
    cases hm : mget m x with
    | some _ => rfl
    | none =>
      obtain ⟨p, hp, e⟩ := List.mem_map.1 h
      exact absurd e (mget_none hm p hp)
theorem places_ok {o : Option Addr} {L : List Pa} {w : World} (cap : Nat) (hR : (paRes o L).R w) (hlt : ∀ x ∈ (paRes o L).fp, x < w.heap.size) (hl : L.length ≤ 9223372036854775806) (hi64 : ∀ p ∈ L, i64 p.se ∧ i64 p.id) :
    Calls Try.prog 29 #[.slice o L.length cap] w fun e w' => (rightH L = false ∧ e = .returned (.tuple #[.map none, .bool false]) ∧ Frm [] w w') ∨ (rightH L = true ∧ ∃ b : Nat, e = .returned (.tuple #[.map (some b), .bool true]) ∧ FreshR w w' (kmRes intV b (atF L))) := by
  have hI : Inv (cx 65 [] [] w) w [0] [⟨55, [.res (paRes o L)], false⟩] := (Inv.nil w).consR (by simp) hR hlt (by simp)
  refine calls_sm (cx 65 [] [] w) (vals := [.raw (.slice o L.length cap)]) mixed Try.func29 rfl rfl rfl hI rfl (st rfl ?_); conv => arg 3; whnf
  refine gg ?_
  refine n_makeMap (fun b => kmRes intV b []) 69 rfl rfl rfl (fun _ => rfl) (fun w b h => MapOf.empty _ _ h) fun mb hmb => ?_
  (refine gs ?_)
  refine gg ?_
  refine n_loop (σ := Nat) (fun i => [(4, .raw (.map (some mb))), (10, .raw (.slice o L.length cap)), (11, .int .i64 (L.length : Nat)), (12, .int .i64 (i : Nat))]) (fun i => [⟨55, [.res (paRes o L)], false⟩, ⟨69, [.res (kmRes intV mb (atF (L.take i)))], true⟩]) (fun i => i ≤ L.length ∧ ∀ j, j < i → okAt L j = true) (fun i => L.length - i) 0 mixed ⟨by omega, by intro j h; omega⟩ (fun _ _ => rfl) rfl (by (repeat (first | exact trivial | refine ⟨⟨rfl, rfl⟩, ?_⟩))) (fun s _ => ⟨by (repeat (first | exact trivial | refine ⟨⟨_, rfl⟩, ?_⟩)), by (repeat (first | exact trivial | refine ⟨⟨_, rfl⟩, ?_⟩))⟩) fun i hi => ?_
  obtain ⟨hi, hJ⟩ := hi
  (refine gs ?_)
  by_cases hlt2 : i < L.length
  · have ei : IntKind.i64.wrap ((i : Int) + 1) = ((i + 1 : Nat) : Int) := by rw [w64 (by omega) (by omega)]; simp
    obtain ⟨ad, rfl⟩ := rd_some pa_len (by omega) hR (by omega)
    have hx : L[i]? = some L[i] := List.getElem?_eq_getElem _
    have h64 := hi64 L[i] (List.getElem_mem hlt2)
    generalize L[i] = p at hx h64
    have hok : okAt L i = (okP p && !(calls (L.take i)).contains p.call) := by unfold okAt; rw [hx]
    have hnx := atF_next hx
    have hkey : (mget (atF (L.take i)) p.call).isSome = (calls (L.take i)).contains p.call := by
      rw [Bool.eq_iff_iff, mget_isSome, atF_keys]; simp
    generalize atF (L.take i) = m at hnx hkey
    refine gw ?_
    refine n_ldI (.agg p.sv) rfl rfl (fun _ w1 _ hI1 => pa_row (hI1.res 0 rfl rfl) hx rfl) ?_
    (refine gs ?_)
    refine gw ?_
    refine n_lookup (E := callE) (ev' := intV) (b := mb) (kr := .agg [.int .i64 p.se, .int .i64 p.id]) (zr := .int .i64 0) (z := .int .i64 0) m p.call (.tup [.int .i64 ((mget m p.call).getD 0), .bool (mget m p.call).isSome]) callK rfl rfl rfl rfl rfl rfl h64 rfl rfl (by cases mget m p.call <;> rfl) (fun _ w1 _ hI1 => by exact hI1.res 1 rfl rfl) ?_
    (refine gs ?_)
    rw [hkey]
    cases hct : (calls (L.take i)).contains p.call with
    | true =>
      refine gw ?_
      refine n_leave ?_
      refine n_ret0 rfl rfl fun ids' w' hp hI' => .inl ⟨rightH_false (i := i) (by rw [hok, hct]; simp), rfl, hI'.frm⟩
    | false =>
      by_cases q1 : p.k < 1
      · have hpk : okP p = false := by simp only [okP, decide_eq_false_iff_not]; omega
        (repeat ((first | refine n_must rfl ?_ | refine n_chk (drawF_ok (by decide +kernel)) ?_ | refine n_same rfl ?_ | ((first | refine n_must ?_ ?_ | refine n_brT ?_ ?_); (focus (first | (simp [q1]; done) | (simp [q1]; omega) | (simp only [q1]; simp; done)))) | (refine n_brF ?_ ?_; (focus (first | (simp [q1]; done) | (simp [q1]; omega) | (simp only [q1]; simp; done)))) | refine n_must (by (with_reducible refine and_shape ?_) <;> kernel_rfl) ?_); (refine gs ?_)))
        refine n_leave ?_
        refine n_ret0 rfl rfl fun ids' w' hp hI' => .inl ⟨rightH_false (i := i) (by rw [hok, hpk]; rfl), rfl, hI'.frm⟩
      by_cases q2 : 11 < p.k
      · have hpk : okP p = false := by simp only [okP, decide_eq_false_iff_not]; omega
        (repeat ((first | refine n_must rfl ?_ | refine n_chk (drawF_ok (by decide +kernel)) ?_ | refine n_same rfl ?_ | ((first | refine n_must ?_ ?_ | refine n_brT ?_ ?_); (focus (first | (simp [q1, q2]; done) | (simp [q1, q2]; omega) | (simp only [q1, q2]; simp; done)))) | (refine n_brF ?_ ?_; (focus (first | (simp [q1, q2]; done) | (simp [q1, q2]; omega) | (simp only [q1, q2]; simp; done)))) | refine n_must (by (with_reducible refine and_shape ?_) <;> kernel_rfl) ?_); (refine gs ?_)))
        refine n_leave ?_
        refine n_ret0 rfl rfl fun ids' w' hp hI' => .inl ⟨rightH_false (i := i) (by rw [hok, hpk]; rfl), rfl, hI'.frm⟩
      by_cases q3 : p.fr < 0
      · have hpk : okP p = false := by simp only [okP, decide_eq_false_iff_not]; omega
        (repeat ((first | refine n_must rfl ?_ | refine n_chk (drawF_ok (by decide +kernel)) ?_ | refine n_same rfl ?_ | ((first | refine n_must ?_ ?_ | refine n_brT ?_ ?_); (focus (first | (simp [q1, q2, q3]; done) | (simp [q1, q2, q3]; omega) | (simp only [q1, q2, q3]; simp; done)))) | (refine n_brF ?_ ?_; (focus (first | (simp [q1, q2, q3]; done) | (simp [q1, q2, q3]; omega) | (simp only [q1, q2, q3]; simp; done)))) | refine n_must (by (with_reducible refine and_shape ?_) <;> kernel_rfl) ?_); (refine gs ?_)))
        refine n_leave ?_
        refine n_ret0 rfl rfl fun ids' w' hp hI' => .inl ⟨rightH_false (i := i) (by rw [hok, hpk]; rfl), rfl, hI'.frm⟩
      by_cases q4 : p.to < -1
      · have hpk : okP p = false := by simp only [okP, decide_eq_false_iff_not]; omega
        (repeat ((first | refine n_must rfl ?_ | refine n_chk (drawF_ok (by decide +kernel)) ?_ | refine n_same rfl ?_ | ((first | refine n_must ?_ ?_ | refine n_brT ?_ ?_); (focus (first | (simp [q1, q2, q3, q4]; done) | (simp [q1, q2, q3, q4]; omega) | (simp only [q1, q2, q3, q4]; simp; done)))) | (refine n_brF ?_ ?_; (focus (first | (simp [q1, q2, q3, q4]; done) | (simp [q1, q2, q3, q4]; omega) | (simp only [q1, q2, q3, q4]; simp; done)))) | refine n_must (by (with_reducible refine and_shape ?_) <;> kernel_rfl) ?_); (refine gs ?_)))
        refine n_leave ?_
        refine n_ret0 rfl rfl fun ids' w' hp hI' => .inl ⟨rightH_false (i := i) (by rw [hok, hpk]; rfl), rfl, hI'.frm⟩
      by_cases q5 : 0 ≤ p.to
      · by_cases q6 : p.to < p.fr
        · have hpk : okP p = false := by simp only [okP, decide_eq_false_iff_not]; omega
          (repeat ((first | refine n_must rfl ?_ | refine n_chk (drawF_ok (by decide +kernel)) ?_ | refine n_same rfl ?_ | ((first | refine n_must ?_ ?_ | refine n_brT ?_ ?_); (focus (first | (simp [q1, q2, q3, q4, q5, q6]; done) | (simp [q1, q2, q3, q4, q5, q6]; omega) | (simp only [q1, q2, q3, q4, q5, q6]; simp; done)))) | (refine n_brF ?_ ?_; (focus (first | (simp [q1, q2, q3, q4, q5, q6]; done) | (simp [q1, q2, q3, q4, q5, q6]; omega) | (simp only [q1, q2, q3, q4, q5, q6]; simp; done)))) | refine n_must (by (with_reducible refine and_shape ?_) <;> kernel_rfl) ?_); (refine gs ?_)))
          refine n_leave ?_
          refine n_ret0 rfl rfl fun ids' w' hp hI' => .inl ⟨rightH_false (i := i) (by rw [hok, hpk]; rfl), rfl, hI'.frm⟩
        · have hpk : okP p = true := by simp only [okP, decide_eq_true_eq]; omega
          (repeat ((first | refine n_must rfl ?_ | refine n_chk (drawF_ok (by decide +kernel)) ?_ | refine n_same rfl ?_ | ((first | refine n_must ?_ ?_ | refine n_brT ?_ ?_); (focus (first | (simp [q1, q2, q3, q4, q5, q6]; done) | (simp [q1, q2, q3, q4, q5, q6]; omega) | (simp only [q1, q2, q3, q4, q5, q6]; simp; done)))) | (refine n_brF ?_ ?_; (focus (first | (simp [q1, q2, q3, q4, q5, q6]; done) | (simp [q1, q2, q3, q4, q5, q6]; omega) | (simp only [q1, q2, q3, q4, q5, q6]; simp; done)))) | refine n_must (by (with_reducible refine and_shape ?_) <;> kernel_rfl) ?_); (refine gs ?_)))
          have hmem : ∀ x ∈ m, x.1 ≠ p.call := fun x hx e => by
            have h1 : (mget m p.call).isSome = true := mget_isSome.2 (List.mem_map.2 ⟨x, hx, e⟩)
            rw [hkey, hct] at h1; cases h1
          refine n_mapUpdate (E := callE) (ev' := intV) (i := 1) (b := mb) (kr := .agg [.int .i64 p.se, .int .i64 p.id]) (vr := .int .i64 (i : Nat)) (ρ := kmRes intV mb m) (kmRes intV mb (m ++ [(p.call, (i : Int))])) m p.call (i : Int) callK rfl rfl rfl rfl rfl rfl h64 rfl rfl rfl rfl rfl (by simp [kmRes]) rfl (fun _ _ _ _ h => by exact h) (fun _ _ _ _ _ _ _ h => by rw [(mput_new hmem).2.1] at h; exact h) ?_
          (refine gs ?_)
          refine gw ?_
          refine n_again ⟨i + 1, ⟨by omega, fun j hj => ?_⟩, by omega, (by (repeat (first | exact trivial | refine ⟨⟨rfl, rfl⟩, ?_⟩ | refine ⟨⟨rfl, congrArg (SV.int .i64) ei⟩, ?_⟩))), ?_⟩
          · by_cases e : j = i
            · subst e; rw [hok, hpk, hct]; rfl
            · exact hJ j (by omega)
          · rw [hnx]; exact ⟨_, rfl⟩
      · have hpk : okP p = true := by simp only [okP, decide_eq_true_eq]; omega
        (repeat ((first | refine n_must rfl ?_ | refine n_chk (drawF_ok (by decide +kernel)) ?_ | refine n_same rfl ?_ | ((first | refine n_must ?_ ?_ | refine n_brT ?_ ?_); (focus (first | (simp [q1, q2, q3, q4, q5]; done) | (simp [q1, q2, q3, q4, q5]; omega) | (simp only [q1, q2, q3, q4, q5]; simp; done)))) | (refine n_brF ?_ ?_; (focus (first | (simp [q1, q2, q3, q4, q5]; done) | (simp [q1, q2, q3, q4, q5]; omega) | (simp only [q1, q2, q3, q4, q5]; simp; done)))) | refine n_must (by (with_reducible refine and_shape ?_) <;> kernel_rfl) ?_); (refine gs ?_)))
        have hmem : ∀ x ∈ m, x.1 ≠ p.call := fun x hx e => by
          have h1 : (mget m p.call).isSome = true := mget_isSome.2 (List.mem_map.2 ⟨x, hx, e⟩)
          rw [hkey, hct] at h1; cases h1
        refine n_mapUpdate (E := callE) (ev' := intV) (i := 1) (b := mb) (kr := .agg [.int .i64 p.se, .int .i64 p.id]) (vr := .int .i64 (i : Nat)) (ρ := kmRes intV mb m) (kmRes intV mb (m ++ [(p.call, (i : Int))])) m p.call (i : Int) callK rfl rfl rfl rfl rfl rfl h64 rfl rfl rfl rfl rfl (by simp [kmRes]) rfl (fun _ _ _ _ h => by exact h) (fun _ _ _ _ _ _ _ h => by rw [(mput_new hmem).2.1] at h; exact h) ?_
        (refine gs ?_)
        refine gw ?_
        refine n_again ⟨i + 1, ⟨by omega, fun j hj => ?_⟩, by omega, (by (repeat (first | exact trivial | refine ⟨⟨rfl, rfl⟩, ?_⟩ | refine ⟨⟨rfl, congrArg (SV.int .i64) ei⟩, ?_⟩))), ?_⟩
        · by_cases e : j = i
          · subst e; rw [hok, hpk, hct]; rfl
          · exact hJ j (by omega)
        · rw [hnx]; exact ⟨_, rfl⟩
  · obtain rfl : i = L.length := by omega
    rw [List.take_length]
    refine gw ?_
    refine n_exit rfl ?_
    (refine gs ?_)
    refine gw ?_
    exact n_ret0 rfl rfl fun ids' w' hp hI' => .inr ⟨rightH_true hJ, mb, rfl, hI'.frm, hI'.res 1 rfl rfl, hI'.res_new 1 rfl rfl rfl (by simp), hI'.resLt 1 rfl rfl⟩
end
section
set_option maxRecDepth 100000
set_option linter.unusedSimpArgs false
set_option linter.unusedVariables false
set_option maxHeartbeats 8000000
open Go.RowKit

def stepA (A : All) (e : Ef) : All := if allowB (doF A 0 e.k e.nm e.a e.b e.va) e.er e.va then (doF A 0 e.k e.nm e.a e.b e.va).1 else A
def stA (E : List Ef) (i : Nat) : All := (E.take i).foldl stepA []
def alA (E : List Ef) (i : Nat) (e : Ef) : Bool := allowB (doF (stA E i) 0 e.k e.nm e.a e.b e.va) e.er e.va
theorem stA_next {E : List Ef} {i : Nat} {e : Ef} (h : E[i]? = some e) : stA E (i + 1) = stepA (stA E i) e := by
  unfold stA
  rw [take_next h]
  simp
/-- Both maps allow the same. -/
theorem st_rel (E : List Ef) : ∀ i, i ≤ E.length → RelM (stA E i) (stR E i)
  | 0, _ => RelM.nil
  | i + 1, hi => by
    have ih := st_rel E i (by omega)
    have hx : E[i]? = some E[i] := List.getElem?_eq_getElem _
    rw [stA_next hx, stR_next hx]
    obtain ⟨h1, h2⟩ := doR_rel ih E[i].k E[i].nm E[i].a E[i].b E[i].va
    unfold stepA stepR
    have : allowB (doF (stA E i) 0 E[i].k E[i].nm E[i].a E[i].b E[i].va) E[i].er E[i].va = allowR (doR (stR E i) E[i].k E[i].nm E[i].a E[i].b E[i].va) E[i].er E[i].va := by unfold allowB allowR; rw [h1]
    rw [this]
    split
    · exact h2
    · exact ih
theorem al_eq (E : List Ef) {i : Nat} {e : Ef} (hx : E[i]? = some e) : alA E i e = alR E i e := by
  obtain ⟨h1, _⟩ := doR_rel (st_rel E i (by have := (List.getElem?_eq_some_iff.1 hx).1; omega)) e.k e.nm e.a e.b e.va
  unfold alA alR allowB allowR
  rw [h1]
theorem verF_eq (L : List Pa) (E : List Ef) : verF L E (alA E) = verF L E (alR E) := by
  have : vOk L E (alA E) = vOk L E (alR E) := by
    funext i
    unfold vOk
    cases hx : E[i]? with
    | none => rfl
    | some e => dsimp only; rw [al_eq E hx]
  unfold verF
  rw [this]

def lastF (E : List Ef) : Nat → Int
  | 0 => 0
  | i + 1 => match E[i]? with | some d => d.sp | none => 0
theorem vOk_step {L : List Pa} {E : List Ef} {al : Nat → Ef → Bool} {i : Nat} {e : Ef} (hx : E[i]? = some e) (h : vOk L E al i = true) : 0 ≤ e.sp := by
  unfold vOk at h
  rw [hx] at h
  simp [fitsF, stepF] at h
  exact h.1.1.1
theorem stepF_last {L : List Pa} {E : List Ef} {al : Nat → Ef → Bool} {i : Nat} (hJ : ∀ j, j < i → vOk L E al j = true) {e : Ef} (hx : E[i]? = some e) : stepF E i e = !decide (e.sp < lastF E i) := by
  cases i with
  | zero =>
    simp only [stepF, lastF]
    by_cases h : e.sp < 0
    · rw [decide_eq_true h]; simp [h]
    · rw [decide_eq_false h]; simp [h]
  | succ i =>
    have hi : i < E.length := by have := (List.getElem?_eq_some_iff.1 hx).1; omega
    have hd : E[i]? = some E[i] := List.getElem?_eq_getElem _
    have h0 := vOk_step hd (hJ i (by omega))
    simp only [stepF, lastF, Nat.add_sub_cancel, hd]
    rw [Bool.eq_iff_iff]
    simp
    omega
theorem there_had {E : List Ef} {i : Nat} {c : Int × Int} (h : 0 ≤ c.1) : thereF (E.take i) c = hadF E i c := by
  unfold thereF hadF
  rw [Bool.eq_iff_iff]
  simp only [List.any_eq_true, decide_eq_true_eq, List.contains_eq_mem, List.mem_map]
  constructor
  · rintro ⟨e, he, _, hc⟩; exact ⟨e, he, hc⟩
  · rintro ⟨e, he, hc⟩; exact ⟨e, he, by rw [← hc] at h; exact h, hc⟩
theorem there_next {E : List Ef} {i : Nat} {e : Ef} (hx : E[i]? = some e) (c : Int × Int) : thereF (E.take (i + 1)) c = (thereF (E.take i) c || decide (0 ≤ e.se ∧ e.call = c)) := by
  unfold thereF; rw [take_next hx]; simp
theorem at_get (L : List Pa) (c : Int × Int) : mget (atF L) c = if placeI L c < 0 then none else some (placeI L c) := by
  have key : ∀ (L : List Pa) (k : Nat), mget ((L.zipIdx k).map fun x => (x.1.call, (x.2 : Int))) c = (L.findIdx? fun p => decide (p.call = c)).map fun i => ((i + k : Nat) : Int) := by
    intro L
    induction L with
    | nil => intro k; rfl
    | cons p L ih =>
      intro k
      rw [List.zipIdx_cons, List.map_cons, List.findIdx?_cons, mget]
      by_cases h : p.call = c
      · rw [if_pos h, decide_eq_true h]; simp
      · rw [if_neg h, ih, decide_eq_false h]
        simp only [Bool.false_eq_true, if_false, Option.map_map]
        congr 1
        funext i
        simp only [Function.comp]
        congr 1
        omega
  have h := key L 0
  unfold atF placeI
  rw [h]
  cases L.findIdx? fun p => decide (p.call = c) with
  | none => simp
  | some i => simp
abbrev boolV (b : Bool) : Value := .bool b

structure Ef.good (e : Ef) : Prop where
  se : i64 e.se
  id : i64 e.id
  nm : e.nm.size ≤ maxLen
  a : i64 e.a
  va : i64 e.va
theorem cVerify_ok {o : Option Addr} {L : List Pa} {oe : Option Addr} {E : List Ef} {w : World} (cap cape : Nat) (hR : (paRes o L).R w) (hlt : ∀ x ∈ (paRes o L).fp, x < w.heap.size) (hE : (efRes oe E).R w) (hElt : ∀ x ∈ (efRes oe E).fp, x < w.heap.size)
    (hap : ∀ x ∈ (paRes o L).fp, x ∉ (efRes oe E).fp) (hl : L.length ≤ 1759218604390) (hle : E.length ≤ 1759218604390) (hL64 : ∀ p ∈ L, i64 p.se ∧ i64 p.id) (hEg : ∀ e ∈ E, e.good) :
    Calls Try.prog 15 #[.slice o L.length cap, .slice oe E.length cape] w fun x w' => x = .returned (ansV (verF L E (alA E)).1 (verF L E (alA E)).2) ∧ Frm [] w w' := by
  have hI0 : Inv (cx 117 [] [] w) w [0] [⟨55, [.res (paRes o L)], false⟩] := (Inv.nil w).consR (by simp) hR hlt (by simp)
  have hI := hI0.consR (t := 52) (rw_ := false) (r := efRes oe E) (fun x hx hm => hap x (by simpa [fpsOf, fpOf, resOf] using hm) hx) hE hElt (by simp)
  refine calls_sm (cx 117 [] [] w) (vals := [.raw (.slice o L.length cap), .raw (.slice oe E.length cape)]) mixed Try.func15 rfl rfl rfl hI rfl (st rfl ?_); conv => arg 3; whnf
  refine gg ?_
  by_cases hr : rightH L = false
  · refine n_sameP (.tup [.raw (.map none), .lit false]) rfl rfl rfl (fun _ w1 hp1 hI1 => (places_ok cap (hI1.res 0 rfl rfl) (hI1.resLt 0 rfl rfl) (by omega) hL64).mono fun e w' h => h.elim (fun h => h.2) fun h => by rw [hr] at h; cases h.1) ?_; (refine gs ?_)
    refine gw ?_
    have e : verF L E (alA E) = (0, 1) := by rw [verF, if_pos hr]
    rw [e]
    exact n_ret0 rfl rfl fun ids' w' hp hI' => ⟨rfl, hI'.frm⟩
  have hr' : rightH L = true := by simpa using hr
  have hV : verF L E (alA E) = match firstBadN E.length (vOk L E (alA E)) with
      | some i => ((i : Int), 170)
      | none => match firstBadN L.length (mOk L E) with
        | some i => ((E.length : Int) + i, 170)
        | none => (0, 0) := by rw [verF, if_neg hr]; rfl
  refine n_callN (fun b : Nat => kmRes intV b (atF L)) 69 (fun b => .tup [.raw (.map (some b)), .lit true]) (fun b => .tuple #[.map (some b), .bool true]) (fun _ => True) rfl rfl rfl (fun _ => rfl) (fun w1 hI1 => (places_ok cap (hI1.res 0 rfl rfl) (hI1.resLt 0 rfl rfl) (by omega) hL64).mono fun e w' h => h.elim (fun h => by rw [hr'] at h; cases h.1) fun ⟨_, b, h1, h2⟩ => ⟨b, h1, trivial, h2⟩) ?_
  intro ab _ hnew
  (refine gs ?_)
  refine gw ?_
  refine n_callN (fun y : Nat × Nat => mapRes y.1 y.2 []) 108 (fun y => .raw (pV y.1)) (fun y => pV y.1) (fun _ => True) rfl rfl rfl (fun _ => rfl) (fun w1 hI1 => New_ok w1) ?_
  rintro ⟨p, mb0⟩ _ hnew2
  (refine gs ?_)
  refine gw ?_
  refine n_makeMap (fun b => kmRes boolV b []) 91 rfl rfl rfl (fun _ => rfl) (fun w b h => MapOf.empty _ _ h) fun hb hhb => ?_
  (refine gs ?_)
  refine gw ?_
  refine n_loop (σ := Nat × Nat × All × List ((Int × Int) × Bool)) (fun t => [(0, .raw (.slice o L.length cap)), (1, .raw (.slice oe E.length cape)), (6, .raw (.map (some ab))), (8, .raw (pV p)), (9, .raw (.map (some hb))), (10, .int .i64 (lastF E t.1)), (26, .raw (.slice oe E.length cape)), (27, .int .i64 (E.length : Nat)), (28, .int .i64 (t.1 : Nat))]) (fun t => [⟨55, [.res (paRes o L)], false⟩, ⟨52, [.res (efRes oe E)], false⟩, ⟨69, [.res (kmRes intV ab (atF L))], true⟩, ⟨108, [.res (mapRes p t.2.1 t.2.2.1)], true⟩, ⟨91, [.res (kmRes boolV hb t.2.2.2)], true⟩]) (fun t => t.1 ≤ E.length ∧ (∀ j, j < t.1 → vOk L E (alA E) j = true) ∧ Same (stA E t.1) t.2.2.1 ∧ AllOk t.2.2.1 ∧ ∀ c, (mget t.2.2.2 c).getD false = thereF (E.take t.1) c) (fun t => E.length - t.1) (0, mb0, [], []) mixed ⟨by simp, by intro j h; simp at h, Same.refl [], fun x hx => by simp at hx, fun c => rfl⟩ (fun _ _ => rfl) rfl (by (repeat (first | exact trivial | refine ⟨⟨rfl, rfl⟩, ?_⟩))) (fun s _ => ⟨by (repeat (first | exact trivial | refine ⟨⟨_, rfl⟩, ?_⟩)), by (repeat (first | exact trivial | refine ⟨⟨_, rfl⟩, ?_⟩))⟩) fun t hi => ?_
  obtain ⟨i, mb, A, H⟩ := t
  obtain ⟨hi, hJ, hsame, hok, hH⟩ := hi
  dsimp only at hi hJ hsame hok hH ⊢
  (refine gs ?_)
  by_cases hlt2 : i < E.length
  · have ei : IntKind.i64.wrap ((i : Int) + 1) = ((i + 1 : Nat) : Int) := by rw [w64 (by omega) (by omega)]; simp
    have hx : E[i]? = some E[i] := List.getElem?_eq_getElem _
    obtain ⟨ae, rfl⟩ := rd_some ef_len (by omega) hE (by omega)
    have hg := hEg E[i] (List.getElem_mem hlt2)
    generalize E[i] = e at hx hg
    have hv : vOk L E (alA E) i = (fitsF L E i e && alA E i e) := by unfold vOk; rw [hx]
    have hst := stepF_last hJ hx
    have hF : fitsF L E i e = (stepF E i e && (if e.se < 0 then decide (e.k = 12 ∧ e.er = 0) else callF L E i e)) := rfl
    have hla : lastF E (i + 1) = e.sp := by simp only [lastF, hx]
    have hnx := stA_next hx
    have htn := there_next hx
    rw [hst] at hF
    refine gw ?_
    refine n_ldI (.agg e.sv) rfl rfl (fun _ w1 _ hI1 => ef_row (hI1.res 1 rfl rfl) hx rfl) ?_
    (refine gs ?_)
    generalize lastF E i = la at hF
    by_cases q1 : e.sp < la
    · (repeat ((first | refine n_must rfl ?_ | refine n_chk (drawF_ok (by decide +kernel)) ?_ | refine n_same rfl ?_ | ((first | refine n_must ?_ ?_ | refine n_brT ?_ ?_); (focus (first | (simp [q1]; done) | (simp [q1]; omega) | (simp only [q1]; simp; done)))) | (refine n_brF ?_ ?_; (focus (first | (simp [q1]; done) | (simp [q1]; omega) | (simp only [q1]; simp; done)))) | refine n_must (by (with_reducible refine and_shape ?_) <;> kernel_rfl) ?_); (refine gs ?_)))
      refine n_leave ?_
      have hb : vOk L E (alA E) i = false := by rw [hv, hF, decide_eq_true q1]; rfl
      have e0 : verF L E (alA E) = ((i : Int), 170) := by rw [hV, firstBadN_some hlt2 hJ hb]
      rw [e0]
      exact n_ret0 rfl rfl fun ids' w' hp hI' => ⟨rfl, hI'.frm⟩
    rw [decide_eq_false q1, Bool.not_false, Bool.true_and] at hF
    by_cases q3 : e.se < 0
    · rw [if_pos q3] at hF
      by_cases q4 : e.k = 12
      · by_cases q5 : e.er = 0
        · have hft : fitsF L E i e = true := by rw [hF, decide_eq_true ⟨q4, q5⟩]
          (repeat ((first | refine n_must rfl ?_ | refine n_chk (drawF_ok (by decide +kernel)) ?_ | refine n_same rfl ?_ | ((first | refine n_must ?_ ?_ | refine n_brT ?_ ?_); (focus (first | (simp [q1, q3, q4, q5]; done) | (simp [q1, q3, q4, q5]; omega) | (simp only [q1, q3, q4, q5]; simp; done)))) | (refine n_brF ?_ ?_; (focus (first | (simp [q1, q3, q4, q5]; done) | (simp [q1, q3, q4, q5]; omega) | (simp only [q1, q3, q4, q5]; simp; done)))) | refine n_must (by (with_reducible refine and_shape ?_) <;> kernel_rfl) ?_); (refine gs ?_)))
          refine n_callR (Y := Nat × All) 3 (ρ := mapRes p mb A) (fun y => mapRes p y.1 y.2) (fun _ => .bool (alA E i e)) (fun _ => .bool (alA E i e)) (fun y => Same (stA E (i + 1)) y.2 ∧ AllOk y.2) rfl rfl (fun _ => rfl) rfl rfl rfl (fun _ w1 hp1 hI1 hR => (Allows_ok hR hok e.sp e.se e.id e.k e.nm e.a e.b e.er e.va hg.nm hg.a hg.va).mono ?_) ?_
          · rintro x w2 ⟨y, hy, ⟨h1, h2⟩, hP⟩
            obtain ⟨d1, d2⟩ := doF_like hsame 0 0 e.k e.nm e.a e.b e.va
            have ea : allowB (doF A 0 e.k e.nm e.a e.b e.va) e.er e.va = alA E i e := by unfold alA allowB; rw [d1]
            rw [ea] at hy h1
            refine ⟨y, hy, ⟨Same.trans ?_ h1, h2⟩, hP⟩
            rw [hnx, stepA, show allowB (doF (stA E i) 0 e.k e.nm e.a e.b e.va) e.er e.va = alA E i e from rfl]
            split
            · exact d2
            · exact hsame
          rintro ⟨mb2, A2⟩ ⟨g1, g2⟩
          dsimp only at g1 g2
          (refine gs ?_)
          by_cases ha : alA E i e = true
          · (repeat ((first | refine n_must rfl ?_ | refine n_chk (drawF_ok (by decide +kernel)) ?_ | refine n_same rfl ?_ | ((first | refine n_must ?_ ?_ | refine n_brT ?_ ?_); (focus (first | (simp [ha]; done) | (simp [ha]; omega) | (simp only [ha]; simp; done)))) | (refine n_brF ?_ ?_; (focus (first | (simp [ha]; done) | (simp [ha]; omega) | (simp only [ha]; simp; done)))) | refine n_must (by (with_reducible refine and_shape ?_) <;> kernel_rfl) ?_); (refine gs ?_)))
            refine n_again ⟨(i + 1, mb2, A2, H), ⟨by dsimp only; omega, fun j hj => ?_, g1, g2, (fun c => by dsimp only; rw [htn, decide_eq_false fun h => (by omega), Bool.or_false]; exact hH c)⟩, by dsimp only; omega, ?_, ⟨_, rfl⟩⟩
            · by_cases e' : j = i
              · subst e'; rw [hv, hft, ha]; rfl
              · exact hJ j (by dsimp only at hj; omega)
            · dsimp only; rw [hla]; exact (by (repeat (first | exact trivial | refine ⟨⟨rfl, rfl⟩, ?_⟩ | refine ⟨⟨rfl, congrArg (SV.int .i64) ei⟩, ?_⟩)))
          · have ha' : alA E i e = false := by simpa using ha
            (repeat ((first | refine n_must rfl ?_ | refine n_chk (drawF_ok (by decide +kernel)) ?_ | refine n_same rfl ?_ | ((first | refine n_must ?_ ?_ | refine n_brT ?_ ?_); (focus (first | (simp [ha']; done) | (simp [ha']; omega) | (simp only [ha']; simp; done)))) | (refine n_brF ?_ ?_; (focus (first | (simp [ha']; done) | (simp [ha']; omega) | (simp only [ha']; simp; done)))) | refine n_must (by (with_reducible refine and_shape ?_) <;> kernel_rfl) ?_); (refine gs ?_)))
            refine n_leave ?_
            have hb : vOk L E (alA E) i = false := by rw [hv, ha', Bool.and_false]
            have e0 : verF L E (alA E) = ((i : Int), 170) := by rw [hV, firstBadN_some hlt2 hJ hb]
            rw [e0]
            exact n_ret0 rfl rfl fun ids' w' hp hI' => ⟨rfl, hI'.frm⟩
        · (repeat ((first | refine n_must rfl ?_ | refine n_chk (drawF_ok (by decide +kernel)) ?_ | refine n_same rfl ?_ | ((first | refine n_must ?_ ?_ | refine n_brT ?_ ?_); (focus (first | (simp [q1, q3, q4, q5]; done) | (simp [q1, q3, q4, q5]; omega) | (simp only [q1, q3, q4, q5]; simp; done)))) | (refine n_brF ?_ ?_; (focus (first | (simp [q1, q3, q4, q5]; done) | (simp [q1, q3, q4, q5]; omega) | (simp only [q1, q3, q4, q5]; simp; done)))) | refine n_must (by (with_reducible refine and_shape ?_) <;> kernel_rfl) ?_); (refine gs ?_)))
          refine n_leave ?_
          have hb : vOk L E (alA E) i = false := by rw [hv, hF, decide_eq_false fun h => q5 h.2]; rfl
          have e0 : verF L E (alA E) = ((i : Int), 170) := by rw [hV, firstBadN_some hlt2 hJ hb]
          rw [e0]
          exact n_ret0 rfl rfl fun ids' w' hp hI' => ⟨rfl, hI'.frm⟩
      · (repeat ((first | refine n_must rfl ?_ | refine n_chk (drawF_ok (by decide +kernel)) ?_ | refine n_same rfl ?_ | ((first | refine n_must ?_ ?_ | refine n_brT ?_ ?_); (focus (first | (simp [q1, q3, q4]; done) | (simp [q1, q3, q4]; omega) | (simp only [q1, q3, q4]; simp; done)))) | (refine n_brF ?_ ?_; (focus (first | (simp [q1, q3, q4]; done) | (simp [q1, q3, q4]; omega) | (simp only [q1, q3, q4]; simp; done)))) | refine n_must (by (with_reducible refine and_shape ?_) <;> kernel_rfl) ?_); (refine gs ?_)))
        refine n_leave ?_
        have hb : vOk L E (alA E) i = false := by rw [hv, hF, decide_eq_false fun h => q4 h.1]; rfl
        have e0 : verF L E (alA E) = ((i : Int), 170) := by rw [hV, firstBadN_some hlt2 hJ hb]
        rw [e0]
        exact n_ret0 rfl rfl fun ids' w' hp hI' => ⟨rfl, hI'.frm⟩
    rw [if_neg q3] at hF
    (repeat ((first | refine n_must rfl ?_ | refine n_chk (drawF_ok (by decide +kernel)) ?_ | refine n_same rfl ?_ | ((first | refine n_must ?_ ?_ | refine n_brT ?_ ?_); (focus (first | (simp [q1, q3]; done) | (simp [q1, q3]; omega) | (simp only [q1, q3]; simp; done)))) | (refine n_brF ?_ ?_; (focus (first | (simp [q1, q3]; done) | (simp [q1, q3]; omega) | (simp only [q1, q3]; simp; done)))) | refine n_must (by (with_reducible refine and_shape ?_) <;> kernel_rfl) ?_); (refine gs ?_)))
    have hat := at_get L e.call
    refine n_lookup (E := callE) (ev' := intV) (b := ab) (kr := .agg [.int .i64 e.se, .int .i64 e.id]) (zr := .int .i64 0) (z := .int .i64 0) (atF L) e.call (.tup [.int .i64 ((mget (atF L) e.call).getD 0), .bool (mget (atF L) e.call).isSome]) callK rfl rfl rfl rfl rfl rfl (show callE.ok e.call from ⟨hg.se, hg.id⟩) rfl rfl (by cases mget (atF L) e.call <;> rfl) (fun _ w1 _ hI1 => by exact hI1.res 2 rfl rfl) ?_
    (refine gs ?_)
    rw [hat]
    by_cases q6 : placeI L e.call < 0
    · have hn := placeI_lt.1 q6
      rw [if_pos q6]
      refine gw ?_
      refine n_leave ?_
      have hb : vOk L E (alA E) i = false := by rw [hv, hF, callF, hn]; rfl
      have e0 : verF L E (alA E) = ((i : Int), 170) := by rw [hV, firstBadN_some hlt2 hJ hb]
      rw [e0]
      exact n_ret0 rfl rfl fun ids' w' hp hI' => ⟨rfl, hI'.frm⟩
    rw [if_neg q6]
    obtain ⟨m, pp, hm, hp', hpp, hpc⟩ := placeI_some q6
    rw [hm]
    have hml : m < L.length := (List.getElem?_eq_some_iff.1 hp').1
    obtain ⟨ad, rfl⟩ := rd_some pa_len (by omega) hR (by omega)
    have hC : fitsF L E i e = (explF e pp && !hadF E i e.call) := by rw [hF, callF, hpp]
    have hth : (mget H e.call).getD false = hadF E i e.call := by rw [hH, there_had (by show 0 ≤ e.se; omega)]
    refine gw ?_
    refine n_lookup (E := callE) (ev' := boolV) (b := hb) (kr := .agg [.int .i64 e.se, .int .i64 e.id]) (zr := .lit false) (z := .bool false) H e.call (.bool (hadF E i e.call)) callK rfl rfl rfl rfl rfl rfl (show callE.ok e.call from ⟨hg.se, hg.id⟩) rfl rfl (by rw [← hth]; cases mget H e.call <;> rfl) (fun _ w1 _ hI1 => by exact hI1.res 4 rfl rfl) ?_
    (refine gs ?_)
    have hC2 : hadF E i e.call = true → fitsF L E i e = false := fun h => by rw [hC, h]; simp
    by_cases q7 : hadF E i e.call = true
    · (repeat ((first | refine n_must rfl ?_ | refine n_chk (drawF_ok (by decide +kernel)) ?_ | refine n_same rfl ?_ | ((first | refine n_must ?_ ?_ | refine n_brT ?_ ?_); (focus (first | (simp [q7]; done) | (simp [q7]; omega) | (simp only [q7]; simp; done)))) | (refine n_brF ?_ ?_; (focus (first | (simp [q7]; done) | (simp [q7]; omega) | (simp only [q7]; simp; done)))) | refine n_must (by (with_reducible refine and_shape ?_) <;> kernel_rfl) ?_); (refine gs ?_)))
      refine n_leave ?_
      have hb : vOk L E (alA E) i = false := by rw [hv, hC2 q7]; rfl
      have e0 : verF L E (alA E) = ((i : Int), 170) := by rw [hV, firstBadN_some hlt2 hJ hb]
      rw [e0]
      exact n_ret0 rfl rfl fun ids' w' hp hI' => ⟨rfl, hI'.frm⟩
    have q7' : hadF E i e.call = false := by simpa using q7
    rw [q7', Bool.not_false, Bool.and_true] at hC
    (repeat ((first | refine n_must rfl ?_ | refine n_chk (drawF_ok (by decide +kernel)) ?_ | refine n_same rfl ?_ | ((first | refine n_must ?_ ?_ | refine n_brT ?_ ?_); (focus (first | (simp [q7']; done) | (simp [q7']; omega) | (simp only [q7']; simp; done)))) | (refine n_brF ?_ ?_; (focus (first | (simp [q7']; done) | (simp [q7']; omega) | (simp only [q7']; simp; done)))) | refine n_must (by (with_reducible refine and_shape ?_) <;> kernel_rfl) ?_); (refine gs ?_)))
    refine n_ldDI (.agg pp.sv) rfl rfl (fun _ w1 _ hI1 => pa_row (hI1.res 0 rfl rfl) hp' rfl) ?_
    (refine gs ?_)
    (repeat ((first | refine n_must rfl ?_ | refine n_chk (drawF_ok (by decide +kernel)) ?_ | refine n_same rfl ?_ | ((first | refine n_must ?_ ?_ | refine n_brT ?_ ?_); (focus (first | (simp [q7']; done) | (simp [q7']; omega) | (simp only [q7']; simp; done)))) | (refine n_brF ?_ ?_; (focus (first | (simp [q7']; done) | (simp [q7']; omega) | (simp only [q7']; simp; done)))) | refine n_must (by (with_reducible refine and_shape ?_) <;> kernel_rfl) ?_); (refine gs ?_)))
    refine n_sameP (.bool (explF e pp)) rfl rfl rfl (fun _ w1 hp1 hI1 => explains_ok e pp w1) ?_; (refine gs ?_)
    by_cases q8 : explF e pp = true
    · have hft : fitsF L E i e = true := by rw [hC, q8]
      (repeat ((first | refine n_must rfl ?_ | refine n_chk (drawF_ok (by decide +kernel)) ?_ | refine n_same rfl ?_ | ((first | refine n_must ?_ ?_ | refine n_brT ?_ ?_); (focus (first | (simp [q8]; done) | (simp [q8]; omega) | (simp only [q8]; simp; done)))) | (refine n_brF ?_ ?_; (focus (first | (simp [q8]; done) | (simp [q8]; omega) | (simp only [q8]; simp; done)))) | refine n_must (by (with_reducible refine and_shape ?_) <;> kernel_rfl) ?_); (refine gs ?_)))
      have hHH : ∀ c, (mget (mput H e.call true) c).getD false = thereF (E.take (i + 1)) c := fun c => by
        rw [mget_put, htn]
        by_cases ec : e.call = c
        · rw [if_pos ec, decide_eq_true ⟨by omega, ec⟩]; simp
        · rw [if_neg ec, decide_eq_false fun h => ec h.2, Bool.or_false]; exact hH c
      refine n_mapUpdate (E := callE) (ev' := boolV) (i := 4) (b := hb) (kr := .agg [.int .i64 e.se, .int .i64 e.id]) (vr := .lit true) (ρ := kmRes boolV hb H) (kmRes boolV hb (mput H e.call true)) H e.call true callK rfl rfl rfl rfl rfl rfl (show callE.ok e.call from ⟨hg.se, hg.id⟩) rfl rfl rfl rfl rfl (by simp [kmRes]) rfl (fun _ _ _ _ h => by exact h) (fun _ _ _ _ _ _ _ h => by exact h) ?_
      (refine gs ?_)
      refine gw ?_
      refine n_callR (Y := Nat × All) 3 (ρ := mapRes p mb A) (fun y => mapRes p y.1 y.2) (fun _ => .bool (alA E i e)) (fun _ => .bool (alA E i e)) (fun y => Same (stA E (i + 1)) y.2 ∧ AllOk y.2) rfl rfl (fun _ => rfl) rfl rfl rfl (fun _ w1 hp1 hI1 hR => (Allows_ok hR hok e.sp e.se e.id e.k e.nm e.a e.b e.er e.va hg.nm hg.a hg.va).mono ?_) ?_
      · rintro x w2 ⟨y, hy, ⟨h1, h2⟩, hP⟩
        obtain ⟨d1, d2⟩ := doF_like hsame 0 0 e.k e.nm e.a e.b e.va
        have ea : allowB (doF A 0 e.k e.nm e.a e.b e.va) e.er e.va = alA E i e := by unfold alA allowB; rw [d1]
        rw [ea] at hy h1
        refine ⟨y, hy, ⟨Same.trans ?_ h1, h2⟩, hP⟩
        rw [hnx, stepA, show allowB (doF (stA E i) 0 e.k e.nm e.a e.b e.va) e.er e.va = alA E i e from rfl]
        split
        · exact d2
        · exact hsame
      rintro ⟨mb2, A2⟩ ⟨g1, g2⟩
      dsimp only at g1 g2
      (refine gs ?_)
      by_cases ha : alA E i e = true
      · (repeat ((first | refine n_must rfl ?_ | refine n_chk (drawF_ok (by decide +kernel)) ?_ | refine n_same rfl ?_ | ((first | refine n_must ?_ ?_ | refine n_brT ?_ ?_); (focus (first | (simp [ha]; done) | (simp [ha]; omega) | (simp only [ha]; simp; done)))) | (refine n_brF ?_ ?_; (focus (first | (simp [ha]; done) | (simp [ha]; omega) | (simp only [ha]; simp; done)))) | refine n_must (by (with_reducible refine and_shape ?_) <;> kernel_rfl) ?_); (refine gs ?_)))
        refine n_again ⟨(i + 1, mb2, A2, mput H e.call true), ⟨by dsimp only; omega, fun j hj => ?_, g1, g2, hHH⟩, by dsimp only; omega, ?_, ⟨_, rfl⟩⟩
        · by_cases e' : j = i
          · subst e'; rw [hv, hft, ha]; rfl
          · exact hJ j (by dsimp only at hj; omega)
        · dsimp only; rw [hla]; exact (by (repeat (first | exact trivial | refine ⟨⟨rfl, rfl⟩, ?_⟩ | refine ⟨⟨rfl, congrArg (SV.int .i64) ei⟩, ?_⟩)))
      · have ha' : alA E i e = false := by simpa using ha
        (repeat ((first | refine n_must rfl ?_ | refine n_chk (drawF_ok (by decide +kernel)) ?_ | refine n_same rfl ?_ | ((first | refine n_must ?_ ?_ | refine n_brT ?_ ?_); (focus (first | (simp [ha']; done) | (simp [ha']; omega) | (simp only [ha']; simp; done)))) | (refine n_brF ?_ ?_; (focus (first | (simp [ha']; done) | (simp [ha']; omega) | (simp only [ha']; simp; done)))) | refine n_must (by (with_reducible refine and_shape ?_) <;> kernel_rfl) ?_); (refine gs ?_)))
        refine n_leave ?_
        have hb : vOk L E (alA E) i = false := by rw [hv, ha', Bool.and_false]
        have e0 : verF L E (alA E) = ((i : Int), 170) := by rw [hV, firstBadN_some hlt2 hJ hb]
        rw [e0]
        exact n_ret0 rfl rfl fun ids' w' hp hI' => ⟨rfl, hI'.frm⟩
    · have q8' : explF e pp = false := by simpa using q8
      rw [q8'] at hC
      (repeat ((first | refine n_must rfl ?_ | refine n_chk (drawF_ok (by decide +kernel)) ?_ | refine n_same rfl ?_ | ((first | refine n_must ?_ ?_ | refine n_brT ?_ ?_); (focus (first | (simp [q8']; done) | (simp [q8']; omega) | (simp only [q8']; simp; done)))) | (refine n_brF ?_ ?_; (focus (first | (simp [q8']; done) | (simp [q8']; omega) | (simp only [q8']; simp; done)))) | refine n_must (by (with_reducible refine and_shape ?_) <;> kernel_rfl) ?_); (refine gs ?_)))
      refine n_leave ?_
      have hb : vOk L E (alA E) i = false := by rw [hv, hC]; rfl
      have e0 : verF L E (alA E) = ((i : Int), 170) := by rw [hV, firstBadN_some hlt2 hJ hb]
      rw [e0]
      exact n_ret0 rfl rfl fun ids' w' hp hI' => ⟨rfl, hI'.frm⟩
  · obtain rfl : i = E.length := by omega
    rw [firstBadN_none hJ] at hV
    rw [List.take_length] at hH
    dsimp only at hV
    generalize lastF E E.length = la
    refine gw ?_
    refine n_exit rfl ?_
    (refine gs ?_)
    refine gw ?_
    refine n_loop (σ := Nat) (fun t => [(1, .raw (.slice oe E.length cape)), (9, .raw (.map (some hb))), (95, .raw (.slice o L.length cap)), (96, .int .i64 (L.length : Nat)), (97, .int .i64 (t : Nat))]) (fun t => [⟨55, [.res (paRes o L)], false⟩, ⟨52, [.res (efRes oe E)], false⟩, ⟨69, [.res (kmRes intV ab (atF L))], true⟩, ⟨108, [.res (mapRes p mb A)], true⟩, ⟨91, [.res (kmRes boolV hb H)], true⟩]) (fun t => t ≤ L.length ∧ (∀ j, j < t → mOk L E j = true)) (fun t => L.length - t) 0 mixed ⟨by simp, by intro j h; simp at h⟩ (fun _ _ => rfl) rfl (by (repeat (first | exact trivial | refine ⟨⟨rfl, rfl⟩, ?_⟩))) (fun s _ => ⟨by (repeat (first | exact trivial | refine ⟨⟨_, rfl⟩, ?_⟩)), by (repeat (first | exact trivial | refine ⟨⟨_, rfl⟩, ?_⟩))⟩) fun i hi2 => ?_
    obtain ⟨hi2, hJ2⟩ := hi2
    (refine gs ?_)
    by_cases hlt3 : i < L.length
    · have ei : IntKind.i64.wrap ((i : Int) + 1) = ((i + 1 : Nat) : Int) := by rw [w64 (by omega) (by omega)]; simp
      have hx : L[i]? = some L[i] := List.getElem?_eq_getElem _
      have h64 := hL64 L[i] (List.getElem_mem hlt3)
      obtain ⟨ad, rfl⟩ := rd_some pa_len (by omega) hR (by omega)
      generalize L[i] = pp at hx h64
      have hm : mOk L E i = !(decide (sortF pp = 2) && !thereF E pp.call) := by unfold mOk; rw [hx]
      have hth := hH pp.call
      generalize thereF E pp.call = T at hm hth
      have ec : IntKind.i64.wrap ((E.length : Int) + (i : Int)) = (E.length : Int) + i := w64 (by omega) (by omega)
      refine gw ?_
      refine n_ldI (.agg pp.sv) rfl rfl (fun _ w1 _ hI1 => pa_row (hI1.res 0 rfl rfl) hx rfl) ?_
      (refine gs ?_)
      refine gw ?_
      refine n_sameP (.int .i64 (sortF pp)) rfl rfl rfl (fun _ w1 hp1 hI1 => cSort_ok pp w1) ?_; (refine gs ?_)
      by_cases h2 : sortF pp = 2
      · rw [decide_eq_true h2, Bool.true_and, Bool.not_not] at hm
        (repeat ((first | refine n_must rfl ?_ | refine n_chk (drawF_ok (by decide +kernel)) ?_ | refine n_same rfl ?_ | ((first | refine n_must ?_ ?_ | refine n_brT ?_ ?_); (focus (first | (simp [h2]; done) | (simp [h2]; omega) | (simp only [h2]; simp; done)))) | (refine n_brF ?_ ?_; (focus (first | (simp [h2]; done) | (simp [h2]; omega) | (simp only [h2]; simp; done)))) | refine n_must (by (with_reducible refine and_shape ?_) <;> kernel_rfl) ?_); (refine gs ?_)))
        refine n_lookup (E := callE) (ev' := boolV) (b := hb) (kr := .agg [.int .i64 pp.se, .int .i64 pp.id]) (zr := .lit false) (z := .bool false) H pp.call (.bool T) callK rfl rfl rfl rfl rfl rfl h64 rfl rfl (by rw [← hth]; cases mget H pp.call <;> rfl) (fun _ w1 _ hI1 => by exact hI1.res 4 rfl rfl) ?_
        (refine gs ?_)
        cases T with
        | true =>
          refine gw ?_
          refine n_again ⟨i + 1, ⟨by omega, fun j hj => ?_⟩, by omega, (by (repeat (first | exact trivial | refine ⟨⟨rfl, rfl⟩, ?_⟩ | refine ⟨⟨rfl, congrArg (SV.int .i64) ei⟩, ?_⟩))), ⟨_, rfl⟩⟩
          by_cases e' : j = i
          · subst e'; exact hm
          · exact hJ2 j (by omega)
        | false =>
          rw [firstBadN_some hlt3 hJ2 hm] at hV
          dsimp only at hV
          refine gw ?_
          refine n_leave ?_
          rw [hV, ec]
          exact n_ret0 rfl rfl fun ids' w' hp hI' => ⟨rfl, hI'.frm⟩
      · rw [decide_eq_false h2, Bool.false_and, Bool.not_false] at hm
        (repeat ((first | refine n_must rfl ?_ | refine n_chk (drawF_ok (by decide +kernel)) ?_ | refine n_same rfl ?_ | ((first | refine n_must ?_ ?_ | refine n_brT ?_ ?_); (focus (first | (simp [h2]; done) | (simp [h2]; omega) | (simp only [h2]; simp; done)))) | (refine n_brF ?_ ?_; (focus (first | (simp [h2]; done) | (simp [h2]; omega) | (simp only [h2]; simp; done)))) | refine n_must (by (with_reducible refine and_shape ?_) <;> kernel_rfl) ?_); (refine gs ?_)))
        refine n_again ⟨i + 1, ⟨by omega, fun j hj => ?_⟩, by omega, (by (repeat (first | exact trivial | refine ⟨⟨rfl, rfl⟩, ?_⟩ | refine ⟨⟨rfl, congrArg (SV.int .i64) ei⟩, ?_⟩))), ⟨_, rfl⟩⟩
        by_cases e' : j = i
        · subst e'; exact hm
        · exact hJ2 j (by omega)
    · obtain rfl : i = L.length := by omega
      rw [firstBadN_none hJ2] at hV
      dsimp only at hV
      refine gw ?_
      refine n_exit rfl ?_
      (refine gs ?_)
      refine gw ?_
      rw [hV]
      exact n_ret0 rfl rfl fun ids' w' hp hI' => ⟨rfl, hI'.frm⟩
end
end Go.Proofs.Ytfcbcgjgkleonaa
