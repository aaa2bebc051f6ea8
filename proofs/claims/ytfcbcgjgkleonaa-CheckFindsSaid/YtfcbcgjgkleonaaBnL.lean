/- sluiceref17: stands, named, Number, early. sluiceref16's map and its rows that stay, as two parts. sluiceref17: next. -/
import Derived.Test.YtfcbcgjgkleonaaCsD
import Derived.Test.YtfcbcgjgkleonaaBnW
import Derived.Test.YtfcbcgjgkleonaaCkJ
namespace Go.Proofs.Ytfcbcgjgkleonaa
section
set_option maxRecDepth 100000
set_option linter.unusedSimpArgs false
set_option linter.unusedVariables false
set_option maxHeartbeats 8000000
open Go.RowKit

theorem addT2 (a : Addr) (i n j k : Nat) : ((a.add ((i : Int).toNat * n)).add j).add k = a.add (i * n + (j + k)) := by rw [add_add, add_add, Int.toNat_natCast]
def standB (p : Pa) : Bool := decide (sortF p = 2) || (decide (sortF p = 1) && openF p)
theorem rStands_ok (p : Pa) (w : World) : Calls Try.prog 57 #[p.val] w fun e w' => e = .returned (.bool (standB p)) ∧ Frm [] w w' := by
  have hI := Inv.nil (P := Try.prog) (N := 15) (S := []) (os := []) w
  refine calls_sm (cx 15 [] [] w) (vals := [.agg p.sv]) mixed Try.func57 rfl rfl rfl hI rfl (st rfl ?_); conv => arg 3; whnf
  refine gw ?_
  refine n_call1 rfl fun b1 => ?_
  refine n_sameP (.int .i64 (sortF p)) rfl rfl rfl (fun _ w1 hp1 hI1 => rSort_ok p w1) ?_; (refine gs ?_)
  by_cases s2 : sortF p = 2
  · (repeat ((first | refine n_must rfl ?_ | refine n_chk (drawF_ok (by decide +kernel)) ?_ | refine n_same rfl ?_ | ((first | refine n_must ?_ ?_ | refine n_brT ?_ ?_); (focus (first | (simp [s2]; done) | (simp [s2]; omega) | (simp only [s2]; simp; done)))) | (refine n_brF ?_ ?_; (focus (first | (simp [s2]; done) | (simp [s2]; omega) | (simp only [s2]; simp; done)))) | refine n_must (by (with_reducible refine and_shape ?_) <;> kernel_rfl) ?_); (refine gs ?_)))
    have e : standB p = true := by simp [standB, s2]
    rw [e]
    exact n_ret0 rfl rfl fun ids' w' hp hI' => ⟨rfl, hI'.frm⟩
  (repeat ((first | refine n_must rfl ?_ | refine n_chk (drawF_ok (by decide +kernel)) ?_ | refine n_same rfl ?_ | ((first | refine n_must ?_ ?_ | refine n_brT ?_ ?_); (focus (first | (simp [s2]; done) | (simp [s2]; omega) | (simp only [s2]; simp; done)))) | (refine n_brF ?_ ?_; (focus (first | (simp [s2]; done) | (simp [s2]; omega) | (simp only [s2]; simp; done)))) | refine n_must (by (with_reducible refine and_shape ?_) <;> kernel_rfl) ?_); (refine gs ?_)))
  refine n_sameP (.int .i64 (sortF p)) rfl rfl rfl (fun _ w1 hp1 hI1 => rSort_ok p w1) ?_; (refine gs ?_)
  by_cases s1 : sortF p = 1
  · (repeat ((first | refine n_must rfl ?_ | refine n_chk (drawF_ok (by decide +kernel)) ?_ | refine n_same rfl ?_ | ((first | refine n_must ?_ ?_ | refine n_brT ?_ ?_); (focus (first | (simp [s1]; done) | (simp [s1]; omega) | (simp only [s1]; simp; done)))) | (refine n_brF ?_ ?_; (focus (first | (simp [s1]; done) | (simp [s1]; omega) | (simp only [s1]; simp; done)))) | refine n_must (by (with_reducible refine and_shape ?_) <;> kernel_rfl) ?_); (refine gs ?_)))
    refine n_sameP (.bool (openF p)) rfl rfl rfl (fun _ w1 hp1 hI1 => rOpen_ok p w1) ?_; (refine gs ?_)
    have e : standB p = openF p := by simp [standB, s1]
    rw [e]
    cases openF p with
    | true =>
      (repeat ((first | refine n_must rfl ?_ | refine n_chk (drawF_ok (by decide +kernel)) ?_ | refine n_same rfl ?_ | ((first | refine n_must ?_ ?_ | refine n_brT ?_ ?_); (focus (first | (simp [s1]; done) | (simp [s1]; omega) | (simp only [s1]; simp; done)))) | (refine n_brF ?_ ?_; (focus (first | (simp [s1]; done) | (simp [s1]; omega) | (simp only [s1]; simp; done)))) | refine n_must (by (with_reducible refine and_shape ?_) <;> kernel_rfl) ?_); (refine gs ?_)))
      exact n_ret0 rfl rfl fun ids' w' hp hI' => ⟨rfl, hI'.frm⟩
    | false =>
      (repeat ((first | refine n_must rfl ?_ | refine n_chk (drawF_ok (by decide +kernel)) ?_ | refine n_same rfl ?_ | ((first | refine n_must ?_ ?_ | refine n_brT ?_ ?_); (focus (first | (simp [s1]; done) | (simp [s1]; omega) | (simp only [s1]; simp; done)))) | (refine n_brF ?_ ?_; (focus (first | (simp [s1]; done) | (simp [s1]; omega) | (simp only [s1]; simp; done)))) | refine n_must (by (with_reducible refine and_shape ?_) <;> kernel_rfl) ?_); (refine gs ?_)))
      exact n_ret0 rfl rfl fun ids' w' hp hI' => ⟨rfl, hI'.frm⟩
  · (repeat ((first | refine n_must rfl ?_ | refine n_chk (drawF_ok (by decide +kernel)) ?_ | refine n_same rfl ?_ | ((first | refine n_must ?_ ?_ | refine n_brT ?_ ?_); (focus (first | (simp [s1]; done) | (simp [s1]; omega) | (simp only [s1]; simp; done)))) | (refine n_brF ?_ ?_; (focus (first | (simp [s1]; done) | (simp [s1]; omega) | (simp only [s1]; simp; done)))) | refine n_must (by (with_reducible refine and_shape ?_) <;> kernel_rfl) ?_); (refine gs ?_)))
    have e : standB p = false := by simp [standB, s1, s2]
    rw [e]
    exact n_ret0 rfl rfl fun ids' w' hp hI' => ⟨rfl, hI'.frm⟩
/-! ### named, Number -/
theorem named_take {L : List Pa} {i : Nat} {p : Pa} {n : Int} (h : L[i]? = some p) : namedB9 (L.take (i + 1)) n = (namedB9 (L.take i) n || namesB p n) := by
  unfold namedB9
  rw [take_next h, List.any_append]; simp
theorem named_true {L : List Pa} {i : Nat} {p : Pa} {n : Int} (h : L[i]? = some p) (hn : namesB p n = true) : namedB9 L n = true := List.any_eq_true.2 ⟨p, List.mem_of_getElem? h, hn⟩
theorem rNamed_ok {o : Option Addr} {L : List Pa} {w : World} (cap : Nat) (hR : (paRes o L).R w) (hlt : ∀ x ∈ (paRes o L).fp, x < w.heap.size) (hl : L.length ≤ 9223372036854775806) (n : Int) :
    Calls Try.prog 53 #[.slice o L.length cap, .int .i64 n] w fun e w' => e = .returned (.bool (namedB9 L n)) ∧ Frm [] w w' := by
  have hI : Inv (cx 56 [] [] w) w [0] [⟨55, [.res (paRes o L)], false⟩] := (Inv.nil w).consR (by simp) hR hlt (by simp)
  refine calls_sm (cx 56 [] [] w) (vals := [.raw (.slice o L.length cap), .int .i64 n]) mixed Try.func53 rfl rfl rfl hI rfl (st rfl ?_); conv => arg 3; whnf
  refine gg ?_
  refine n_loop (σ := Nat) (fun i => [(0, .raw (.slice o L.length cap)), (1, .int .i64 n), (5, .int .i64 (i : Nat))]) (fun _ => [⟨55, [.res (paRes o L)], false⟩]) (fun i => i ≤ L.length ∧ namedB9 (L.take i) n = false) (fun i => L.length - i) 0 mixed ⟨by omega, rfl⟩ (fun _ _ => rfl) rfl (by (repeat (first | exact trivial | refine ⟨⟨rfl, rfl⟩, ?_⟩))) (fun s _ => ⟨by (repeat (first | exact trivial | refine ⟨⟨_, rfl⟩, ?_⟩)), by (repeat (first | exact trivial | refine ⟨⟨_, rfl⟩, ?_⟩))⟩) fun i hi => ?_
  obtain ⟨hi, hJ⟩ := hi
  (refine gs ?_)
  by_cases hlt2 : i < L.length
  · have ei : IntKind.i64.wrap ((i : Int) + 1) = ((i + 1 : Nat) : Int) := by rw [w64 (by omega) (by omega)]; simp
    obtain ⟨ad, rfl⟩ := rd_some pa_len (by omega) hR (by omega)
    have hx : L[i]? = some L[i] := List.getElem?_eq_getElem _
    generalize L[i] = p at hx
    have hnx := named_take (n := n) hx
    rw [hJ, Bool.false_or] at hnx
    refine gw ?_
    by_cases k5 : p.k = 5
    · by_cases ha : p.a = n
      · (repeat ((first | (refine n_ldI (.int .i64 p.k) rfl rfl (fun _ w1 _ hI1 => load_cell aggInt (pa_cell (hI1.res 0 rfl rfl) hx 2 rfl (addT ad i 10 2))) ?_; (refine gs ?_)) | (refine n_ldDI (.int .i64 p.k) rfl rfl (fun _ w1 _ hI1 => load_cell aggInt (pa_cell (hI1.res 0 rfl rfl) hx 2 rfl (addT ad i 10 2))) ?_; (refine gs ?_)) | (refine n_ldRI (.int .i64 p.k) rfl (fun _ w1 _ hI1 => load_cell aggInt (pa_cell (hI1.res 0 rfl rfl) hx 2 rfl (addT ad i 10 2))) ?_; (refine gs ?_)) | (refine n_ldI (.int .i64 p.a) rfl rfl (fun _ w1 _ hI1 => load_cell aggInt (pa_cell (hI1.res 0 rfl rfl) hx 4 rfl (addT2 ad i 10 2 2))) ?_; (refine gs ?_)) | (refine n_ldDI (.int .i64 p.a) rfl rfl (fun _ w1 _ hI1 => load_cell aggInt (pa_cell (hI1.res 0 rfl rfl) hx 4 rfl (addT2 ad i 10 2 2))) ?_; (refine gs ?_)) | (refine n_ldRI (.int .i64 p.a) rfl (fun _ w1 _ hI1 => load_cell aggInt (pa_cell (hI1.res 0 rfl rfl) hx 4 rfl (addT2 ad i 10 2 2))) ?_; (refine gs ?_)) | (refine n_ldI (.int .i64 p.va) rfl rfl (fun _ w1 _ hI1 => load_cell aggInt (pa_cell (hI1.res 0 rfl rfl) hx 9 rfl (addT ad i 10 9))) ?_; (refine gs ?_)) | (refine n_ldDI (.int .i64 p.va) rfl rfl (fun _ w1 _ hI1 => load_cell aggInt (pa_cell (hI1.res 0 rfl rfl) hx 9 rfl (addT ad i 10 9))) ?_; (refine gs ?_)) | (refine n_ldRI (.int .i64 p.va) rfl (fun _ w1 _ hI1 => load_cell aggInt (pa_cell (hI1.res 0 rfl rfl) hx 9 rfl (addT ad i 10 9))) ?_; (refine gs ?_))); (repeat ((first | refine n_must rfl ?_ | refine n_chk (drawF_ok (by decide +kernel)) ?_ | refine n_same rfl ?_ | ((first | refine n_must ?_ ?_ | refine n_brT ?_ ?_); (focus (first | (simp [k5, ha]; done) | (simp [k5, ha]; omega) | (simp only [k5, ha]; simp; done)))) | (refine n_brF ?_ ?_; (focus (first | (simp [k5, ha]; done) | (simp [k5, ha]; omega) | (simp only [k5, ha]; simp; done)))) | refine n_must (by (with_reducible refine and_shape ?_) <;> kernel_rfl) ?_); (refine gs ?_)))))
        refine n_leave ?_
        rw [named_true hx (by simp [namesB, k5, ha])]
        exact n_ret0 rfl rfl fun ids' w' hp hI' => ⟨rfl, hI'.frm⟩
      · (repeat ((first | (refine n_ldI (.int .i64 p.k) rfl rfl (fun _ w1 _ hI1 => load_cell aggInt (pa_cell (hI1.res 0 rfl rfl) hx 2 rfl (addT ad i 10 2))) ?_; (refine gs ?_)) | (refine n_ldDI (.int .i64 p.k) rfl rfl (fun _ w1 _ hI1 => load_cell aggInt (pa_cell (hI1.res 0 rfl rfl) hx 2 rfl (addT ad i 10 2))) ?_; (refine gs ?_)) | (refine n_ldRI (.int .i64 p.k) rfl (fun _ w1 _ hI1 => load_cell aggInt (pa_cell (hI1.res 0 rfl rfl) hx 2 rfl (addT ad i 10 2))) ?_; (refine gs ?_)) | (refine n_ldI (.int .i64 p.a) rfl rfl (fun _ w1 _ hI1 => load_cell aggInt (pa_cell (hI1.res 0 rfl rfl) hx 4 rfl (addT2 ad i 10 2 2))) ?_; (refine gs ?_)) | (refine n_ldDI (.int .i64 p.a) rfl rfl (fun _ w1 _ hI1 => load_cell aggInt (pa_cell (hI1.res 0 rfl rfl) hx 4 rfl (addT2 ad i 10 2 2))) ?_; (refine gs ?_)) | (refine n_ldRI (.int .i64 p.a) rfl (fun _ w1 _ hI1 => load_cell aggInt (pa_cell (hI1.res 0 rfl rfl) hx 4 rfl (addT2 ad i 10 2 2))) ?_; (refine gs ?_)) | (refine n_ldI (.int .i64 p.va) rfl rfl (fun _ w1 _ hI1 => load_cell aggInt (pa_cell (hI1.res 0 rfl rfl) hx 9 rfl (addT ad i 10 9))) ?_; (refine gs ?_)) | (refine n_ldDI (.int .i64 p.va) rfl rfl (fun _ w1 _ hI1 => load_cell aggInt (pa_cell (hI1.res 0 rfl rfl) hx 9 rfl (addT ad i 10 9))) ?_; (refine gs ?_)) | (refine n_ldRI (.int .i64 p.va) rfl (fun _ w1 _ hI1 => load_cell aggInt (pa_cell (hI1.res 0 rfl rfl) hx 9 rfl (addT ad i 10 9))) ?_; (refine gs ?_))); (repeat ((first | refine n_must rfl ?_ | refine n_chk (drawF_ok (by decide +kernel)) ?_ | refine n_same rfl ?_ | ((first | refine n_must ?_ ?_ | refine n_brT ?_ ?_); (focus (first | (simp [k5, ha]; done) | (simp [k5, ha]; omega) | (simp only [k5, ha]; simp; done)))) | (refine n_brF ?_ ?_; (focus (first | (simp [k5, ha]; done) | (simp [k5, ha]; omega) | (simp only [k5, ha]; simp; done)))) | refine n_must (by (with_reducible refine and_shape ?_) <;> kernel_rfl) ?_); (refine gs ?_)))))
        refine n_again ⟨i + 1, ⟨by omega, by rw [hnx]; simp [namesB, k5, ha]⟩, by omega, (by (repeat (first | exact trivial | refine ⟨⟨rfl, rfl⟩, ?_⟩ | refine ⟨⟨rfl, congrArg (SV.int .i64) ei⟩, ?_⟩))), ⟨_, rfl⟩⟩
    by_cases k6 : p.k = 6
    · by_cases ha : p.a = n
      · (repeat ((first | (refine n_ldI (.int .i64 p.k) rfl rfl (fun _ w1 _ hI1 => load_cell aggInt (pa_cell (hI1.res 0 rfl rfl) hx 2 rfl (addT ad i 10 2))) ?_; (refine gs ?_)) | (refine n_ldDI (.int .i64 p.k) rfl rfl (fun _ w1 _ hI1 => load_cell aggInt (pa_cell (hI1.res 0 rfl rfl) hx 2 rfl (addT ad i 10 2))) ?_; (refine gs ?_)) | (refine n_ldRI (.int .i64 p.k) rfl (fun _ w1 _ hI1 => load_cell aggInt (pa_cell (hI1.res 0 rfl rfl) hx 2 rfl (addT ad i 10 2))) ?_; (refine gs ?_)) | (refine n_ldI (.int .i64 p.a) rfl rfl (fun _ w1 _ hI1 => load_cell aggInt (pa_cell (hI1.res 0 rfl rfl) hx 4 rfl (addT2 ad i 10 2 2))) ?_; (refine gs ?_)) | (refine n_ldDI (.int .i64 p.a) rfl rfl (fun _ w1 _ hI1 => load_cell aggInt (pa_cell (hI1.res 0 rfl rfl) hx 4 rfl (addT2 ad i 10 2 2))) ?_; (refine gs ?_)) | (refine n_ldRI (.int .i64 p.a) rfl (fun _ w1 _ hI1 => load_cell aggInt (pa_cell (hI1.res 0 rfl rfl) hx 4 rfl (addT2 ad i 10 2 2))) ?_; (refine gs ?_)) | (refine n_ldI (.int .i64 p.va) rfl rfl (fun _ w1 _ hI1 => load_cell aggInt (pa_cell (hI1.res 0 rfl rfl) hx 9 rfl (addT ad i 10 9))) ?_; (refine gs ?_)) | (refine n_ldDI (.int .i64 p.va) rfl rfl (fun _ w1 _ hI1 => load_cell aggInt (pa_cell (hI1.res 0 rfl rfl) hx 9 rfl (addT ad i 10 9))) ?_; (refine gs ?_)) | (refine n_ldRI (.int .i64 p.va) rfl (fun _ w1 _ hI1 => load_cell aggInt (pa_cell (hI1.res 0 rfl rfl) hx 9 rfl (addT ad i 10 9))) ?_; (refine gs ?_))); (repeat ((first | refine n_must rfl ?_ | refine n_chk (drawF_ok (by decide +kernel)) ?_ | refine n_same rfl ?_ | ((first | refine n_must ?_ ?_ | refine n_brT ?_ ?_); (focus (first | (simp [k6, ha]; done) | (simp [k6, ha]; omega) | (simp only [k6, ha]; simp; done)))) | (refine n_brF ?_ ?_; (focus (first | (simp [k6, ha]; done) | (simp [k6, ha]; omega) | (simp only [k6, ha]; simp; done)))) | refine n_must (by (with_reducible refine and_shape ?_) <;> kernel_rfl) ?_); (refine gs ?_)))))
        refine n_leave ?_
        rw [named_true hx (by simp [namesB, k6, ha])]
        exact n_ret0 rfl rfl fun ids' w' hp hI' => ⟨rfl, hI'.frm⟩
      · (repeat ((first | (refine n_ldI (.int .i64 p.k) rfl rfl (fun _ w1 _ hI1 => load_cell aggInt (pa_cell (hI1.res 0 rfl rfl) hx 2 rfl (addT ad i 10 2))) ?_; (refine gs ?_)) | (refine n_ldDI (.int .i64 p.k) rfl rfl (fun _ w1 _ hI1 => load_cell aggInt (pa_cell (hI1.res 0 rfl rfl) hx 2 rfl (addT ad i 10 2))) ?_; (refine gs ?_)) | (refine n_ldRI (.int .i64 p.k) rfl (fun _ w1 _ hI1 => load_cell aggInt (pa_cell (hI1.res 0 rfl rfl) hx 2 rfl (addT ad i 10 2))) ?_; (refine gs ?_)) | (refine n_ldI (.int .i64 p.a) rfl rfl (fun _ w1 _ hI1 => load_cell aggInt (pa_cell (hI1.res 0 rfl rfl) hx 4 rfl (addT2 ad i 10 2 2))) ?_; (refine gs ?_)) | (refine n_ldDI (.int .i64 p.a) rfl rfl (fun _ w1 _ hI1 => load_cell aggInt (pa_cell (hI1.res 0 rfl rfl) hx 4 rfl (addT2 ad i 10 2 2))) ?_; (refine gs ?_)) | (refine n_ldRI (.int .i64 p.a) rfl (fun _ w1 _ hI1 => load_cell aggInt (pa_cell (hI1.res 0 rfl rfl) hx 4 rfl (addT2 ad i 10 2 2))) ?_; (refine gs ?_)) | (refine n_ldI (.int .i64 p.va) rfl rfl (fun _ w1 _ hI1 => load_cell aggInt (pa_cell (hI1.res 0 rfl rfl) hx 9 rfl (addT ad i 10 9))) ?_; (refine gs ?_)) | (refine n_ldDI (.int .i64 p.va) rfl rfl (fun _ w1 _ hI1 => load_cell aggInt (pa_cell (hI1.res 0 rfl rfl) hx 9 rfl (addT ad i 10 9))) ?_; (refine gs ?_)) | (refine n_ldRI (.int .i64 p.va) rfl (fun _ w1 _ hI1 => load_cell aggInt (pa_cell (hI1.res 0 rfl rfl) hx 9 rfl (addT ad i 10 9))) ?_; (refine gs ?_))); (repeat ((first | refine n_must rfl ?_ | refine n_chk (drawF_ok (by decide +kernel)) ?_ | refine n_same rfl ?_ | ((first | refine n_must ?_ ?_ | refine n_brT ?_ ?_); (focus (first | (simp [k6, ha]; done) | (simp [k6, ha]; omega) | (simp only [k6, ha]; simp; done)))) | (refine n_brF ?_ ?_; (focus (first | (simp [k6, ha]; done) | (simp [k6, ha]; omega) | (simp only [k6, ha]; simp; done)))) | refine n_must (by (with_reducible refine and_shape ?_) <;> kernel_rfl) ?_); (refine gs ?_)))))
        refine n_again ⟨i + 1, ⟨by omega, by rw [hnx]; simp [namesB, k6, ha]⟩, by omega, (by (repeat (first | exact trivial | refine ⟨⟨rfl, rfl⟩, ?_⟩ | refine ⟨⟨rfl, congrArg (SV.int .i64) ei⟩, ?_⟩))), ⟨_, rfl⟩⟩
    by_cases k4 : p.k = 4
    · by_cases ha : p.va = n
      · (repeat ((first | (refine n_ldI (.int .i64 p.k) rfl rfl (fun _ w1 _ hI1 => load_cell aggInt (pa_cell (hI1.res 0 rfl rfl) hx 2 rfl (addT ad i 10 2))) ?_; (refine gs ?_)) | (refine n_ldDI (.int .i64 p.k) rfl rfl (fun _ w1 _ hI1 => load_cell aggInt (pa_cell (hI1.res 0 rfl rfl) hx 2 rfl (addT ad i 10 2))) ?_; (refine gs ?_)) | (refine n_ldRI (.int .i64 p.k) rfl (fun _ w1 _ hI1 => load_cell aggInt (pa_cell (hI1.res 0 rfl rfl) hx 2 rfl (addT ad i 10 2))) ?_; (refine gs ?_)) | (refine n_ldI (.int .i64 p.a) rfl rfl (fun _ w1 _ hI1 => load_cell aggInt (pa_cell (hI1.res 0 rfl rfl) hx 4 rfl (addT2 ad i 10 2 2))) ?_; (refine gs ?_)) | (refine n_ldDI (.int .i64 p.a) rfl rfl (fun _ w1 _ hI1 => load_cell aggInt (pa_cell (hI1.res 0 rfl rfl) hx 4 rfl (addT2 ad i 10 2 2))) ?_; (refine gs ?_)) | (refine n_ldRI (.int .i64 p.a) rfl (fun _ w1 _ hI1 => load_cell aggInt (pa_cell (hI1.res 0 rfl rfl) hx 4 rfl (addT2 ad i 10 2 2))) ?_; (refine gs ?_)) | (refine n_ldI (.int .i64 p.va) rfl rfl (fun _ w1 _ hI1 => load_cell aggInt (pa_cell (hI1.res 0 rfl rfl) hx 9 rfl (addT ad i 10 9))) ?_; (refine gs ?_)) | (refine n_ldDI (.int .i64 p.va) rfl rfl (fun _ w1 _ hI1 => load_cell aggInt (pa_cell (hI1.res 0 rfl rfl) hx 9 rfl (addT ad i 10 9))) ?_; (refine gs ?_)) | (refine n_ldRI (.int .i64 p.va) rfl (fun _ w1 _ hI1 => load_cell aggInt (pa_cell (hI1.res 0 rfl rfl) hx 9 rfl (addT ad i 10 9))) ?_; (refine gs ?_))); (repeat ((first | refine n_must rfl ?_ | refine n_chk (drawF_ok (by decide +kernel)) ?_ | refine n_same rfl ?_ | ((first | refine n_must ?_ ?_ | refine n_brT ?_ ?_); (focus (first | (simp [k4, ha]; done) | (simp [k4, ha]; omega) | (simp only [k4, ha]; simp; done)))) | (refine n_brF ?_ ?_; (focus (first | (simp [k4, ha]; done) | (simp [k4, ha]; omega) | (simp only [k4, ha]; simp; done)))) | refine n_must (by (with_reducible refine and_shape ?_) <;> kernel_rfl) ?_); (refine gs ?_)))))
        refine n_leave ?_
        rw [named_true hx (by simp [namesB, k4, ha])]
        exact n_ret0 rfl rfl fun ids' w' hp hI' => ⟨rfl, hI'.frm⟩
      · (repeat ((first | (refine n_ldI (.int .i64 p.k) rfl rfl (fun _ w1 _ hI1 => load_cell aggInt (pa_cell (hI1.res 0 rfl rfl) hx 2 rfl (addT ad i 10 2))) ?_; (refine gs ?_)) | (refine n_ldDI (.int .i64 p.k) rfl rfl (fun _ w1 _ hI1 => load_cell aggInt (pa_cell (hI1.res 0 rfl rfl) hx 2 rfl (addT ad i 10 2))) ?_; (refine gs ?_)) | (refine n_ldRI (.int .i64 p.k) rfl (fun _ w1 _ hI1 => load_cell aggInt (pa_cell (hI1.res 0 rfl rfl) hx 2 rfl (addT ad i 10 2))) ?_; (refine gs ?_)) | (refine n_ldI (.int .i64 p.a) rfl rfl (fun _ w1 _ hI1 => load_cell aggInt (pa_cell (hI1.res 0 rfl rfl) hx 4 rfl (addT2 ad i 10 2 2))) ?_; (refine gs ?_)) | (refine n_ldDI (.int .i64 p.a) rfl rfl (fun _ w1 _ hI1 => load_cell aggInt (pa_cell (hI1.res 0 rfl rfl) hx 4 rfl (addT2 ad i 10 2 2))) ?_; (refine gs ?_)) | (refine n_ldRI (.int .i64 p.a) rfl (fun _ w1 _ hI1 => load_cell aggInt (pa_cell (hI1.res 0 rfl rfl) hx 4 rfl (addT2 ad i 10 2 2))) ?_; (refine gs ?_)) | (refine n_ldI (.int .i64 p.va) rfl rfl (fun _ w1 _ hI1 => load_cell aggInt (pa_cell (hI1.res 0 rfl rfl) hx 9 rfl (addT ad i 10 9))) ?_; (refine gs ?_)) | (refine n_ldDI (.int .i64 p.va) rfl rfl (fun _ w1 _ hI1 => load_cell aggInt (pa_cell (hI1.res 0 rfl rfl) hx 9 rfl (addT ad i 10 9))) ?_; (refine gs ?_)) | (refine n_ldRI (.int .i64 p.va) rfl (fun _ w1 _ hI1 => load_cell aggInt (pa_cell (hI1.res 0 rfl rfl) hx 9 rfl (addT ad i 10 9))) ?_; (refine gs ?_))); (repeat ((first | refine n_must rfl ?_ | refine n_chk (drawF_ok (by decide +kernel)) ?_ | refine n_same rfl ?_ | ((first | refine n_must ?_ ?_ | refine n_brT ?_ ?_); (focus (first | (simp [k4, ha]; done) | (simp [k4, ha]; omega) | (simp only [k4, ha]; simp; done)))) | (refine n_brF ?_ ?_; (focus (first | (simp [k4, ha]; done) | (simp [k4, ha]; omega) | (simp only [k4, ha]; simp; done)))) | refine n_must (by (with_reducible refine and_shape ?_) <;> kernel_rfl) ?_); (refine gs ?_)))))
        refine n_again ⟨i + 1, ⟨by omega, by rw [hnx]; simp [namesB, k4, ha]⟩, by omega, (by (repeat (first | exact trivial | refine ⟨⟨rfl, rfl⟩, ?_⟩ | refine ⟨⟨rfl, congrArg (SV.int .i64) ei⟩, ?_⟩))), ⟨_, rfl⟩⟩
    · (repeat ((first | (refine n_ldI (.int .i64 p.k) rfl rfl (fun _ w1 _ hI1 => load_cell aggInt (pa_cell (hI1.res 0 rfl rfl) hx 2 rfl (addT ad i 10 2))) ?_; (refine gs ?_)) | (refine n_ldDI (.int .i64 p.k) rfl rfl (fun _ w1 _ hI1 => load_cell aggInt (pa_cell (hI1.res 0 rfl rfl) hx 2 rfl (addT ad i 10 2))) ?_; (refine gs ?_)) | (refine n_ldRI (.int .i64 p.k) rfl (fun _ w1 _ hI1 => load_cell aggInt (pa_cell (hI1.res 0 rfl rfl) hx 2 rfl (addT ad i 10 2))) ?_; (refine gs ?_)) | (refine n_ldI (.int .i64 p.a) rfl rfl (fun _ w1 _ hI1 => load_cell aggInt (pa_cell (hI1.res 0 rfl rfl) hx 4 rfl (addT2 ad i 10 2 2))) ?_; (refine gs ?_)) | (refine n_ldDI (.int .i64 p.a) rfl rfl (fun _ w1 _ hI1 => load_cell aggInt (pa_cell (hI1.res 0 rfl rfl) hx 4 rfl (addT2 ad i 10 2 2))) ?_; (refine gs ?_)) | (refine n_ldRI (.int .i64 p.a) rfl (fun _ w1 _ hI1 => load_cell aggInt (pa_cell (hI1.res 0 rfl rfl) hx 4 rfl (addT2 ad i 10 2 2))) ?_; (refine gs ?_)) | (refine n_ldI (.int .i64 p.va) rfl rfl (fun _ w1 _ hI1 => load_cell aggInt (pa_cell (hI1.res 0 rfl rfl) hx 9 rfl (addT ad i 10 9))) ?_; (refine gs ?_)) | (refine n_ldDI (.int .i64 p.va) rfl rfl (fun _ w1 _ hI1 => load_cell aggInt (pa_cell (hI1.res 0 rfl rfl) hx 9 rfl (addT ad i 10 9))) ?_; (refine gs ?_)) | (refine n_ldRI (.int .i64 p.va) rfl (fun _ w1 _ hI1 => load_cell aggInt (pa_cell (hI1.res 0 rfl rfl) hx 9 rfl (addT ad i 10 9))) ?_; (refine gs ?_))); (repeat ((first | refine n_must rfl ?_ | refine n_chk (drawF_ok (by decide +kernel)) ?_ | refine n_same rfl ?_ | ((first | refine n_must ?_ ?_ | refine n_brT ?_ ?_); (focus (first | (simp [k4, k5, k6]; done) | (simp [k4, k5, k6]; omega) | (simp only [k4, k5, k6]; simp; done)))) | (refine n_brF ?_ ?_; (focus (first | (simp [k4, k5, k6]; done) | (simp [k4, k5, k6]; omega) | (simp only [k4, k5, k6]; simp; done)))) | refine n_must (by (with_reducible refine and_shape ?_) <;> kernel_rfl) ?_); (refine gs ?_)))))
      refine n_again ⟨i + 1, ⟨by omega, by rw [hnx]; simp [namesB, k4, k5, k6]⟩, by omega, (by (repeat (first | exact trivial | refine ⟨⟨rfl, rfl⟩, ?_⟩ | refine ⟨⟨rfl, congrArg (SV.int .i64) ei⟩, ?_⟩))), ⟨_, rfl⟩⟩
  · obtain rfl : i = L.length := by omega
    rw [List.take_length] at hJ
    refine gw ?_
    refine n_exit rfl ?_
    (refine gs ?_)
    refine gw ?_
    rw [hJ]
    exact n_ret0 rfl rfl fun ids' w' hp hI' => ⟨rfl, hI'.frm⟩
theorem rNumber_ok {o : Option Addr} {L : List Pa} {w : World} (cap : Nat) (hR : (paRes o L).R w) (hlt : ∀ x ∈ (paRes o L).fp, x < w.heap.size) (hN : L.length ≤ 12) {i : Nat} (hi : i ≤ 12) :
    Calls Try.prog 41 #[.slice o L.length cap, .int .i64 (i : Nat)] w fun e w' => e = .returned (.int .i64 (numF L i)) ∧ Frm [] w w' := by
  have hI : Inv (cx 17 [] [] w) w [0] [⟨55, [.res (paRes o L)], false⟩] := (Inv.nil w).consR (by simp) hR hlt (by simp)
  refine calls_sm (cx 17 [] [] w) (vals := [.raw (.slice o L.length cap), .int .i64 (i : Nat)]) mixed Try.func41 rfl rfl rfl hI rfl (st rfl ?_); conv => arg 3; whnf
  refine gg ?_
  refine n_loop (σ := Nat × Nat × Nat) (fun t => [(0, .raw (.slice o L.length cap)), (1, .int .i64 (t.2.2 : Nat)), (5, .int .i64 ((1 + t.2.1 : Nat) : Int))]) (fun _ => [⟨55, [.res (paRes o L)], false⟩]) (fun t => t.2.1 + t.1 = i + L.length + 1 ∧ t.2.2 ≤ i ∧ cntGe L ((1 + t.2.1 : Nat) : Int) + t.2.2 < t.1 ∧ numU L t.1 ((1 + t.2.1 : Nat) : Int) t.2.2 = numF L i) (fun t => t.1) (i + L.length + 1, 0, i) mixed ⟨by dsimp only; omega, by dsimp only; omega, by dsimp only; have := cntGe_le L ((1 + 0 : Nat) : Int); omega, rfl⟩ (fun _ _ => rfl) rfl (by (repeat (first | exact trivial | refine ⟨⟨rfl, rfl⟩, ?_⟩))) (fun s _ => ⟨by (repeat (first | exact trivial | refine ⟨⟨_, rfl⟩, ?_⟩)), by (repeat (first | exact trivial | refine ⟨⟨_, rfl⟩, ?_⟩))⟩) fun t ht => ?_
  obtain ⟨f, n, k⟩ := t
  obtain ⟨h1, h2, h3, h4⟩ := ht
  dsimp only at h1 h2 h3 h4 ⊢
  cases f with
  | zero => omega
  | succ f =>
  have en : IntKind.i64.wrap (((1 + n : Nat) : Int) + 1) = ((1 + (n + 1) : Nat) : Int) := by rw [w64 (by omega) (by omega)]; simp; omega
  have en2 : ((1 + n : Nat) : Int) + 1 = ((1 + (n + 1) : Nat) : Int) := by simp; omega
  rw [numU] at h4
  (refine gs ?_)
  refine gw ?_
  refine n_sameP (.bool (namedB9 L ((1 + n : Nat) : Int))) rfl rfl rfl (fun _ w1 hp1 hI1 => rNamed_ok cap (hI1.res 0 rfl rfl) (fun x hx => hI1.resLt 0 rfl rfl x hx) (by omega) _) ?_; (refine gs ?_)
  cases hb : namedB9 L ((1 + n : Nat) : Int) with
  | true =>
    have hlt2 := cntGe_lt hb
    rw [en2] at hlt2
    rw [hb, if_pos rfl, en2] at h4
    refine gw ?_
    exact n_again ⟨(f, n + 1, k), ⟨by dsimp only; omega, h2, by dsimp only; omega, h4⟩, by dsimp only; omega, (by (repeat (first | exact trivial | refine ⟨⟨rfl, rfl⟩, ?_⟩ | refine ⟨⟨rfl, congrArg (SV.int .i64) en⟩, ?_⟩))), ⟨_, rfl⟩⟩
  | false =>
    have hle := cntGe_mono L ((1 + n : Nat) : Int)
    rw [en2] at hle
    rw [hb, if_neg (by simp)] at h4
    by_cases hk : k = 0
    · subst hk
      rw [if_pos rfl] at h4
      refine gw ?_
      refine n_leave ?_
      rw [← h4]
      exact n_ret0 rfl rfl fun ids' w' hp hI' => ⟨rfl, hI'.frm⟩
    · rw [if_neg hk, en2] at h4
      have ek : IntKind.i64.wrap ((k : Int) - 1) = ((k - 1 : Nat) : Int) := by rw [w64 (by omega) (by omega)]; omega
      have hk' : ¬ (k : Int) = 0 := by omega
      (repeat ((first | refine n_must rfl ?_ | refine n_chk (drawF_ok (by decide +kernel)) ?_ | refine n_same rfl ?_ | ((first | refine n_must ?_ ?_ | refine n_brT ?_ ?_); (focus (first | (simp [hk']; done) | (simp [hk']; omega) | (simp only [hk']; simp; done)))) | (refine n_brF ?_ ?_; (focus (first | (simp [hk']; done) | (simp [hk']; omega) | (simp only [hk']; simp; done)))) | refine n_must (by (with_reducible refine and_shape ?_) <;> kernel_rfl) ?_); (refine gs ?_)))
      exact n_again ⟨(f, n + 1, k - 1), ⟨by dsimp only; omega, by dsimp only; omega, by dsimp only; omega, h4⟩, by dsimp only; omega, (by (repeat (first | exact trivial | refine ⟨⟨rfl, rfl⟩, ?_⟩ | refine ⟨⟨rfl, congrArg (SV.int .i64) en⟩, ?_⟩ | refine ⟨⟨rfl, congrArg (SV.int .i64) ek⟩, ?_⟩))), ⟨_, rfl⟩⟩
/-! ### early -/
/-- Which calls stand, as bools. -/
abbrev inL (n st : Nat) : List Value := (List.range n).map fun i => .bool (st.testBit i)
abbrev inR (g n st : Nat) : Res := cellsRes g (inL n st) 4
theorem aggBool : aggB Try.prog 4 = some false := by kernel_rfl
theorem in_at {n st i : Nat} (h : i < n) : (inL n st)[i]? = some (.bool (st.testBit i)) := by simp [h]
theorem rEarly_ok {o : Option Addr} {S : Srch} {g sd : Nat} {w : World} (cap : Nat) (hR : (paRes o S.L).R w) (hlt : ∀ x ∈ (paRes o S.L).fp, x < w.heap.size) (hB : (inR g S.n sd).R w) (hl : S.n ≤ 9223372036854775806) {i : Nat} (hi : i < S.n) :
    Calls Try.prog 58 #[.slice o S.n cap, .slice (some ⟨g, 0, none⟩) S.n S.n, .int .i64 (i : Nat)] w fun e w' => e = .returned (.bool (earlyF S sd i)) ∧ Frm [] w w' := by
  have hI := Inv.nil (P := Try.prog) (N := 40) (S := []) (os := []) w
  have hL1 : ∀ w1, Frm [] w w1 → (paRes o S.L).R w1 := fun w1 hf => (paRes o S.L).stable _ _ (fun k hk => hf.block k (hlt k hk) (by simp)) hR
  have hB1 : ∀ w1, Frm [] w w1 → (inR g S.n sd).R w1 := fun w1 hf => (inR g S.n sd).stable _ _ (fun k hk => hf.block k (by simp [cellsRes] at hk; subst hk; exact Blk.lt hB) (by simp)) hB
  have hpI : S.p i = S.L[i] := by simp [Srch.p, List.getD, hi]
  have hxi : S.L[i]? = some S.L[i] := List.getElem?_eq_getElem hi
  obtain ⟨ad, rfl⟩ := rd_some pa_len (by omega) hR (show 0 < S.L.length by show 0 < S.n; omega)
  refine calls_sm (cx 40 [] [] w) (vals := [.raw (.slice (some ad) S.n cap), .raw (.slice (some ⟨g, 0, none⟩) S.n S.n), .int .i64 (i : Nat)]) mixed Try.func58 rfl rfl rfl hI rfl (st rfl ?_); conv => arg 3; whnf
  refine gg ?_
  have hdef : earlyF S sd i = (List.range S.n).all fun k => !(!sd.testBit k && decide (sortF (S.p k) = 2) && decide ((S.p k).to < (S.p i).fr)) := rfl
  refine n_loop (σ := Nat) (fun k => [(0, .raw (.slice (some ad) S.n cap)), (1, .raw (.slice (some ⟨g, 0, none⟩) S.n S.n)), (2, .int .i64 (i : Nat)), (7, .int .i64 (k : Nat))]) (fun _ => []) (fun k => k ≤ S.n ∧ ∀ j, j < k → (!(!sd.testBit j && decide (sortF (S.p j) = 2) && decide ((S.p j).to < (S.p i).fr))) = true) (fun k => S.n - k) 0 mixed ⟨by omega, by intro j h; omega⟩ (fun _ _ => rfl) rfl (by (repeat (first | exact trivial | refine ⟨⟨rfl, rfl⟩, ?_⟩))) (fun s _ => ⟨by (repeat (first | exact trivial | refine ⟨⟨_, rfl⟩, ?_⟩)), by (repeat (first | exact trivial | refine ⟨⟨_, rfl⟩, ?_⟩))⟩) fun k hk => ?_
  obtain ⟨hk, hJ⟩ := hk
  (refine gs ?_)
  by_cases hlt2 : k < S.n
  · have ek : IntKind.i64.wrap ((k : Int) + 1) = ((k + 1 : Nat) : Int) := by rw [w64 (by omega) (by omega)]; simp
    have hx : S.L[k]? = some S.L[k] := List.getElem?_eq_getElem hlt2
    have hpk : S.p k = S.L[k] := by simp [Srch.p, List.getD, hx]
    have hbk := in_at (st := sd) hlt2
    rw [hpI] at hdef hJ ⊢
    generalize hqi : S.L[i] = qi at hxi hdef hJ ⊢
    clear hqi hpI
    generalize hqk : S.L[k] = q at hx hpk
    clear hqk
    refine gw ?_
    refine n_ldDI (.bool (sd.testBit k)) rfl rfl (fun _ w1 _ hI1 => load_cell aggBool (cellsRes_at (hB1 _ hI1.frm) hbk (by simp))) ?_
    (refine gs ?_)
    cases hbit : sd.testBit k with
    | true =>
      refine gw ?_
      refine n_again ⟨k + 1, ⟨by omega, fun j hj => ?_⟩, by omega, (by (repeat (first | exact trivial | refine ⟨⟨rfl, rfl⟩, ?_⟩ | refine ⟨⟨rfl, congrArg (SV.int .i64) ek⟩, ?_⟩))), ⟨_, rfl⟩⟩
      by_cases ej : j = k
      · subst ej; exact by rw [hbit]; rfl
      · exact hJ j (by omega)
    | false =>
      refine gw ?_
      (refine n_ldA (.agg q.sv) rfl (by first | exact trivial | rfl) rfl (fun _ w1 _ hI1 => pa_row (hL1 _ hI1.frm) hx rfl) ?_; (refine gs ?_))
      refine gw ?_
      refine n_sameP (.int .i64 (sortF q)) rfl rfl rfl (fun _ w1 hp1 hI1 => rSort_ok q w1) ?_; (refine gs ?_)
      refine gw ?_
      repeat ((refine n_ldA (.agg q.sv) rfl (by first | exact trivial | rfl) rfl (fun _ w1 _ hI1 => pa_row (hL1 _ hI1.frm) hx rfl) ?_; (refine gs ?_)); refine gw ?_)
      by_cases s2 : sortF q = 2
      · (repeat ((first | refine n_must rfl ?_ | refine n_chk (drawF_ok (by decide +kernel)) ?_ | refine n_same rfl ?_ | ((first | refine n_must ?_ ?_ | refine n_brT ?_ ?_); (focus (first | (simp [s2]; done) | (simp [s2]; omega) | (simp only [s2]; simp; done)))) | (refine n_brF ?_ ?_; (focus (first | (simp [s2]; done) | (simp [s2]; omega) | (simp only [s2]; simp; done)))) | refine n_must (by (with_reducible refine and_shape ?_) <;> kernel_rfl) ?_); (refine gs ?_)))
        (repeat ((first | (refine n_ldI (.int .i64 q.to) rfl rfl (fun _ w1 _ hI1 => load_cell aggInt (pa_cell (hL1 _ hI1.frm) hx 7 rfl (addT ad k 10 7))) ?_; (refine gs ?_)) | (refine n_ldDI (.int .i64 q.to) rfl rfl (fun _ w1 _ hI1 => load_cell aggInt (pa_cell (hL1 _ hI1.frm) hx 7 rfl (addT ad k 10 7))) ?_; (refine gs ?_)) | (refine n_ldRI (.int .i64 q.to) rfl (fun _ w1 _ hI1 => load_cell aggInt (pa_cell (hL1 _ hI1.frm) hx 7 rfl (addT ad k 10 7))) ?_; (refine gs ?_)) | (refine n_ldI (.int .i64 qi.fr) rfl rfl (fun _ w1 _ hI1 => load_cell aggInt (pa_cell (hL1 _ hI1.frm) hxi 6 rfl (addT ad i 10 6))) ?_; (refine gs ?_)) | (refine n_ldDI (.int .i64 qi.fr) rfl rfl (fun _ w1 _ hI1 => load_cell aggInt (pa_cell (hL1 _ hI1.frm) hxi 6 rfl (addT ad i 10 6))) ?_; (refine gs ?_)) | (refine n_ldRI (.int .i64 qi.fr) rfl (fun _ w1 _ hI1 => load_cell aggInt (pa_cell (hL1 _ hI1.frm) hxi 6 rfl (addT ad i 10 6))) ?_; (refine gs ?_))); (repeat ((first | refine n_must rfl ?_ | refine n_chk (drawF_ok (by decide +kernel)) ?_ | refine n_same rfl ?_ | ((first | refine n_must ?_ ?_ | refine n_brT ?_ ?_); (focus (first | (simp [s2]; done) | (simp [s2]; omega) | (simp only [s2]; simp; done)))) | (refine n_brF ?_ ?_; (focus (first | (simp [s2]; done) | (simp [s2]; omega) | (simp only [s2]; simp; done)))) | refine n_must (by (with_reducible refine and_shape ?_) <;> kernel_rfl) ?_); (refine gs ?_)))))
        by_cases hto : q.to < qi.fr
        · (repeat ((first | refine n_must rfl ?_ | refine n_chk (drawF_ok (by decide +kernel)) ?_ | refine n_same rfl ?_ | ((first | refine n_must ?_ ?_ | refine n_brT ?_ ?_); (focus (first | (simp [s2, hto]; done) | (simp [s2, hto]; omega) | (simp only [s2, hto]; simp; done)))) | (refine n_brF ?_ ?_; (focus (first | (simp [s2, hto]; done) | (simp [s2, hto]; omega) | (simp only [s2, hto]; simp; done)))) | refine n_must (by (with_reducible refine and_shape ?_) <;> kernel_rfl) ?_); (refine gs ?_)))
          refine n_leave ?_
          rw [hdef, List.all_eq_false.2 ⟨k, List.mem_range.2 hlt2, by rw [hpk, hbit, decide_eq_true s2, decide_eq_true hto]; decide⟩]
          exact n_ret0 rfl rfl fun ids' w' hp hI' => ⟨rfl, hI'.frm⟩
        · (repeat ((first | refine n_must rfl ?_ | refine n_chk (drawF_ok (by decide +kernel)) ?_ | refine n_same rfl ?_ | ((first | refine n_must ?_ ?_ | refine n_brT ?_ ?_); (focus (first | (simp [s2, hto]; done) | (simp [s2, hto]; omega) | (simp only [s2, hto]; simp; done)))) | (refine n_brF ?_ ?_; (focus (first | (simp [s2, hto]; done) | (simp [s2, hto]; omega) | (simp only [s2, hto]; simp; done)))) | refine n_must (by (with_reducible refine and_shape ?_) <;> kernel_rfl) ?_); (refine gs ?_)))
          refine n_again ⟨k + 1, ⟨by omega, fun j hj => ?_⟩, by omega, (by (repeat (first | exact trivial | refine ⟨⟨rfl, rfl⟩, ?_⟩ | refine ⟨⟨rfl, congrArg (SV.int .i64) ek⟩, ?_⟩))), ⟨_, rfl⟩⟩
          by_cases ej : j = k
          · subst ej; exact by rw [hpk, decide_eq_false hto]; simp
          · exact hJ j (by omega)
      · (repeat ((first | refine n_must rfl ?_ | refine n_chk (drawF_ok (by decide +kernel)) ?_ | refine n_same rfl ?_ | ((first | refine n_must ?_ ?_ | refine n_brT ?_ ?_); (focus (first | (simp [s2]; done) | (simp [s2]; omega) | (simp only [s2]; simp; done)))) | (refine n_brF ?_ ?_; (focus (first | (simp [s2]; done) | (simp [s2]; omega) | (simp only [s2]; simp; done)))) | refine n_must (by (with_reducible refine and_shape ?_) <;> kernel_rfl) ?_); (refine gs ?_)))
        refine n_again ⟨k + 1, ⟨by omega, fun j hj => ?_⟩, by omega, (by (repeat (first | exact trivial | refine ⟨⟨rfl, rfl⟩, ?_⟩ | refine ⟨⟨rfl, congrArg (SV.int .i64) ek⟩, ?_⟩))), ⟨_, rfl⟩⟩
        by_cases ej : j = k
        · subst ej; exact by rw [hpk, decide_eq_false s2]; simp
        · exact hJ j (by omega)
  · obtain rfl : k = S.n := by omega
    refine gw ?_
    refine n_exit rfl ?_
    (refine gs ?_)
    refine gw ?_
    rw [hdef, List.all_eq_true.2 fun j hj => hJ j (List.mem_range.1 hj)]
    exact n_ret0 rfl rfl fun ids' w' hp hI' => ⟨rfl, hI'.frm⟩
end
section
set_option maxRecDepth 100000
set_option linter.unusedSimpArgs false
set_option linter.unusedVariables false
open Go.RowKit

abbrev arm (p : Nat) (y : Option Addr × Nat) (A : List Rc) (G : List Rw) : Res := (arRes G).both (rmRes p y A)
theorem rma_fp (p : Nat) (y : Option Addr × Nat) (A : List Rc) (G : List Rw) : (rmaRes p y A G).fp = (rmRes p y A).fp ++ (arRes G).fp := by
  simp [rmaRes, rmRes, memRes, fpsOf, fpOf, resOf, List.range, List.range.loop]
theorem rma_both {p : Nat} {y : Option Addr × Nat} {A : List Rc} {G : List Rw} {w : World} (h : (rmaRes p y A G).R w) : (arm p y A G).R w ∧ ∀ x ∈ (arm p y A G).fp, x ∈ (rmaRes p y A G).fp := by
  have hI : Inv (cx 0 [] (rmaRes p y A G).fp w) w [p, 0, 0] (rmaMem y A G) := memRes_open h fun x hx => hx
  refine ⟨⟨hI.res 2 rfl rfl, rm_at hI 0 rfl rfl rfl, fun x hx hx2 => ?_⟩, fun x hx => ?_⟩
  · obtain ⟨i, b, hb, hxi⟩ := fpsOf_inv (ids := [p, 0]) (mem := rmMem y A) rfl hx2
    match i, hb with
    | 0, hb => cases hb; exact hI.apart 0 2 _ _ rfl rfl (by decide) x hxi (by rw [fpOf_res (r := arRes G) rfl]; exact hx)
    | 1, hb => cases hb; exact hI.apart 1 2 _ _ rfl rfl (by decide) x hxi (by rw [fpOf_res (r := arRes G) rfl]; exact hx)
    | n + 2, hb => simp [nth] at hb
  · rw [rma_fp]
    rcases List.mem_append.1 hx with hx | hx
    · exact List.mem_append_right _ hx
    · exact List.mem_append_left _ hx
end
section
set_option maxRecDepth 100000
set_option linter.unusedSimpArgs false
set_option linter.unusedVariables false
set_option maxHeartbeats 8000000
open Go.RowKit

def FitN (d : Nat) (l : List Rk) : Prop := (∀ c ∈ l, c.ok ∧ c.holds.length ≤ d ∧ c.used.length ≤ d) ∧ l.length ≤ d
theorem FitN.next {d : Nat} {l : List Rk} (h : FitN d l) (L : List Pa) (ν : Nat → Int) (i : Nat) : FitN (d + 1) (doRN L ν l i).1 := by
  obtain ⟨h1, h2⟩ := doR_fit h.1 (pAt L i).k (pAt L i).nm (pAt L i).a (pAt L i).b (ν i)
  have := h.2
  exact ⟨h1, by unfold doRN; omega⟩
theorem FitN.fit {d : Nat} {A : List Rc} (h : FitN d (ks A)) (hd : d ≤ 1000) : (∀ c ∈ ks A, c.fit) ∧ A.length ≤ 1000 := by
  refine ⟨fun c hc => ?_, ?_⟩
  · obtain ⟨h1, h2, h3⟩ := h.1 c hc
    exact ⟨h1.in_, by omega, by omega⟩
  · have := h.2
    simp [ks] at this; omega
abbrev bad17 (S : Srch) (l : List Rk) (i : Nat) : Bool := badF S i ([], (doRN S.L (numR S.L) l i).2)
theorem rNext_ok {S : Srch} {o : Option Addr} {p : Nat} {y : Option Addr × Nat} {A : List Rc} {G : List Rw} {d : Nat} {w : World} (cap : Nat) (hN : S.n ≤ 12) (hR : (paRes o S.L).R w) (hlt : ∀ x ∈ (paRes o S.L).fp, x < w.heap.size) (hM : (rmRes p y A).R w) (hMlt : ∀ x ∈ (rmRes p y A).fp, x < w.heap.size) (hG : (arRes G).R w)
    (ap1 : ∀ x ∈ (paRes o S.L).fp, x ∉ (rmRes p y A).fp) (ap2 : ∀ x ∈ (paRes o S.L).fp, x ∉ (arRes G).fp) (ap3 : ∀ x ∈ (rmRes p y A).fp, x ∉ (arRes G).fp) (hin : AllIn G A) (hng : NilG G) (hfit : FitN d (ks A)) (hd : d ≤ 1000) {i : Nat} (hi : i < S.n) (hs : sortF (S.p i) = 2 ∨ sortF (S.p i) = 1) :
    Calls Try.prog 59 #[.slice o S.n cap, .int .i64 (i : Nat), pV p] w fun e w' => ∃ z : (Nat × (Option Addr × Nat)) × List Rc × List Rw, e = .returned (.pointer (if bad17 S (ks A) i = true then none else some ⟨z.1.1, 0, none⟩)) ∧
      (ks z.2.1 = (doRN S.L (numR S.L) (ks A) i).1 ∧ AllIn z.2.2 z.2.1 ∧ ∀ r ∈ G, r ∈ z.2.2) ∧ Post (arRes G) (arm z.1.1 z.1.2 z.2.1 z.2.2) w w' := by
  have hI0 : Inv (cx 55 [(8, .of [(0, []), (1, []), (2, []), (3, []), (4, []), (5, [2]), (6, []), (7, []), (8, []), (9, []), (10, []), (11, [])])] (arRes G).fp w) w [0] [⟨55, [.res (paRes o S.L)], false⟩] := (Inv.nil w).consR (by simp) hR hlt (by simp)
  have hI1 := hI0.consR (t := 111) (rw_ := false) (r := rmRes p y A) (fun x hx hm => ap1 x (by simpa [fpsOf, fpOf, resOf] using hm) hx) hM hMlt (by simp)
  have hI := hI1.consR (t := 3) (rw_ := true) (r := arRes G) (fun x hx hm => by
    have hm' : x ∈ (paRes o S.L).fp ∨ x ∈ (rmRes p y A).fp := by simpa [fpsOf, fpOf, resOf] using hm
    rcases hm' with hm | hm
    · exact ap2 x hm hx
    · exact ap3 x hm hx) hG (arRes_lt hG) (by simp)
  obtain ⟨ft, hAl⟩ := hfit.fit hd
  have hx : S.L[i]? = some S.L[i] := List.getElem?_eq_getElem hi
  obtain ⟨ad, rfl⟩ := rd_some pa_len (by omega) hR (show 0 < S.L.length by show 0 < S.n; omega)
  have hpi : S.p i = S.L[i] := by simp [Srch.p, List.getD, hx]
  have hD : doRN S.L (numR S.L) (ks A) i = doR (ks A) (S.p i).k (S.p i).nm (S.p i).a (S.p i).b (if sortF (S.p i) = 2 then (S.p i).va else numF S.L i) := rfl
  have hbad : ∀ D, badF S i D = ((decide (sortF (S.p i) = 2) && (decide (D.2.2 ≠ (S.p i).er) || decide (D.2.1 ≠ (S.p i).va))) || (decide (sortF (S.p i) = 1) && decide (D.2.2 ≠ 0))) := fun _ => rfl
  rw [hpi] at hD hs
  simp only [hpi] at hbad
  clear hpi
  unfold bad17
  generalize S.L[i] = q at *
  refine calls_sm (cx 55 [(8, .of [(0, []), (1, []), (2, []), (3, []), (4, []), (5, [2]), (6, []), (7, []), (8, []), (9, []), (10, []), (11, [])])] (arRes G).fp w) (vals := [.raw (.slice (some ad) S.n cap), .int .i64 (i : Nat), .raw (pV p)]) mixed Try.func59 rfl rfl rfl hI rfl (st rfl ?_); conv => arg 3; whnf
  refine gg ?_
  refine n_callNM (fun z : Nat × Option Addr × Nat => [z.1, 0]) (fun z => rmMem z.2 A) (fun z => .raw (pV z.1)) (fun z => pV z.1) (fun _ => True) rfl rfl rfl (fun _ => rfl) (fun z => rm_den z.2 A) (fun w1 hI1 => rmCopy_ok (hI1.res 1 rfl rfl) (by omega)) ?_
  rintro ⟨x, z0⟩ _ hnew
  (refine gs ?_)
  refine gw ?_
  refine n_ldI (.agg q.sv) rfl rfl (fun _ w1 _ hI1 => pa_row (hI1.res 0 rfl rfl) hx rfl) ?_
  (refine gs ?_)
  refine gw ?_
  refine n_call1 rfl fun b1 => ?_
  refine n_sameP (.int .i64 (sortF q)) rfl rfl rfl (fun _ w1 hp1 hI1 => rSort_ok q w1) ?_; (refine gs ?_)
  by_cases s2 : sortF q = 2
  · rw [if_pos s2] at hD
    (repeat ((first | refine n_must rfl ?_ | refine n_chk (drawF_ok (by decide +kernel)) ?_ | refine n_same rfl ?_ | ((first | refine n_must ?_ ?_ | refine n_brT ?_ ?_); (focus (first | (simp [s2]; done) | (simp [s2]; omega) | (simp only [s2]; simp; done)))) | (refine n_brF ?_ ?_; (focus (first | (simp [s2]; done) | (simp [s2]; omega) | (simp only [s2]; simp; done)))) | refine n_must (by (with_reducible refine and_shape ?_) <;> kernel_rfl) ?_); (refine gs ?_)))
    refine n_callX [0] _ rfl (fun w1 hI1 => hI1.gather [3, 4, 2] (ids0 := [x, 0, 0]) (mem0 := rmaMem z0 A G) (.blk rfl rfl rfl rfl (.res rfl (.res rfl .nil))) (by simp) 111) ?_
    refine n_callR (Y := (Option Addr × Nat) × List Rc × List Rw) 6 (ρ := rmaRes x z0 A G) (fun z => rmaRes x z.1 z.2.1 z.2.2) (fun _ => ansS (doR (ks A) q.k q.nm q.a q.b q.va).2.1 (doR (ks A) q.k q.nm q.a q.b q.va).2.2) (fun _ => ansV (doR (ks A) q.k q.nm q.a q.b q.va).2.1 (doR (ks A) q.k q.nm q.a q.b q.va).2.2) (fun z => ks z.2.1 = (doR (ks A) q.k q.nm q.a q.b q.va).1 ∧ AllIn z.2.2 z.2.1 ∧ ∀ r ∈ G, r ∈ z.2.2) rfl rfl (fun _ => rfl) rfl rfl rfl (fun _ w1 hp1 hI1 hR => rmDo_ok hR hin hng ft (by omega) q.k q.nm q.a q.b q.va) ?_
    rintro ⟨z1, A2, G2⟩ ⟨q1, q2, q3⟩
    dsimp only at q1 q2 q3
    rw [hD]
    generalize doR (ks A) q.k q.nm q.a q.b q.va = D at q1
    (refine gs ?_)
    refine gw ?_
    by_cases e1 : D.2.2 = q.er
    · by_cases e2 : D.2.1 = q.va
      · have hb : badF S i ([], D.2) = false := by rw [hbad]; simp [s2, e1, e2]
        (repeat ((first | refine n_must rfl ?_ | refine n_chk (drawF_ok (by decide +kernel)) ?_ | refine n_same rfl ?_ | ((first | refine n_must ?_ ?_ | refine n_brT ?_ ?_); (focus (first | (simp [e1, e2]; done) | (simp [e1, e2]; omega) | (simp only [e1, e2]; simp; done)))) | (refine n_brF ?_ ?_; (focus (first | (simp [e1, e2]; done) | (simp [e1, e2]; omega) | (simp only [e1, e2]; simp; done)))) | refine n_must (by (with_reducible refine and_shape ?_) <;> kernel_rfl) ?_); (refine gs ?_)))
        rw [hb]
        refine n_ret0 rfl rfl fun ids' w' hp hI' => ⟨((x, z1), A2, G2), rfl, ⟨q1, q2, q3⟩, ?_⟩
        have hP := post_res (ρ := arRes G) hI' rfl 6 rfl rfl rfl
        exact hP.less (rma_both hP.2.1).1 (rma_both hP.2.1).2
      · have hb : badF S i ([], D.2) = true := by rw [hbad]; simp [s2, e2]
        (repeat ((first | refine n_must rfl ?_ | refine n_chk (drawF_ok (by decide +kernel)) ?_ | refine n_same rfl ?_ | ((first | refine n_must ?_ ?_ | refine n_brT ?_ ?_); (focus (first | (simp [e1, e2]; done) | (simp [e1, e2]; omega) | (simp only [e1, e2]; simp; done)))) | (refine n_brF ?_ ?_; (focus (first | (simp [e1, e2]; done) | (simp [e1, e2]; omega) | (simp only [e1, e2]; simp; done)))) | refine n_must (by (with_reducible refine and_shape ?_) <;> kernel_rfl) ?_); (refine gs ?_)))
        rw [hb]
        refine n_ret0 rfl rfl fun ids' w' hp hI' => ⟨((x, z1), A2, G2), rfl, ⟨q1, q2, q3⟩, ?_⟩
        have hP := post_res (ρ := arRes G) hI' rfl 6 rfl rfl rfl
        exact hP.less (rma_both hP.2.1).1 (rma_both hP.2.1).2
    · have hb : badF S i ([], D.2) = true := by rw [hbad]; simp [s2, e1]
      (repeat ((first | refine n_must rfl ?_ | refine n_chk (drawF_ok (by decide +kernel)) ?_ | refine n_same rfl ?_ | ((first | refine n_must ?_ ?_ | refine n_brT ?_ ?_); (focus (first | (simp [e1]; done) | (simp [e1]; omega) | (simp only [e1]; simp; done)))) | (refine n_brF ?_ ?_; (focus (first | (simp [e1]; done) | (simp [e1]; omega) | (simp only [e1]; simp; done)))) | refine n_must (by (with_reducible refine and_shape ?_) <;> kernel_rfl) ?_); (refine gs ?_)))
      rw [hb]
      refine n_ret0 rfl rfl fun ids' w' hp hI' => ⟨((x, z1), A2, G2), rfl, ⟨q1, q2, q3⟩, ?_⟩
      have hP := post_res (ρ := arRes G) hI' rfl 6 rfl rfl rfl
      exact hP.less (rma_both hP.2.1).1 (rma_both hP.2.1).2
  · rw [if_neg s2] at hD
    have s1 : sortF q = 1 := hs.resolve_left s2
    (repeat ((first | refine n_must rfl ?_ | refine n_chk (drawF_ok (by decide +kernel)) ?_ | refine n_same rfl ?_ | ((first | refine n_must ?_ ?_ | refine n_brT ?_ ?_); (focus (first | (simp [s2]; done) | (simp [s2]; omega) | (simp only [s2]; simp; done)))) | (refine n_brF ?_ ?_; (focus (first | (simp [s2]; done) | (simp [s2]; omega) | (simp only [s2]; simp; done)))) | refine n_must (by (with_reducible refine and_shape ?_) <;> kernel_rfl) ?_); (refine gs ?_)))
    refine n_sameP (.int .i64 (numF S.L i)) rfl rfl rfl (fun _ w1 hp1 hI1 => rNumber_ok cap (hI1.res 0 rfl rfl) (fun x hx => hI1.resLt 0 rfl rfl x hx) hN (by omega)) ?_; (refine gs ?_)
    refine gw ?_
    refine n_callX [0] _ rfl (fun w1 hI1 => hI1.gather [3, 4, 2] (ids0 := [x, 0, 0]) (mem0 := rmaMem z0 A G) (.blk rfl rfl rfl rfl (.res rfl (.res rfl .nil))) (by simp) 111) ?_
    refine n_callR (Y := (Option Addr × Nat) × List Rc × List Rw) 6 (ρ := rmaRes x z0 A G) (fun z => rmaRes x z.1 z.2.1 z.2.2) (fun _ => ansS (doR (ks A) q.k q.nm q.a q.b (numF S.L i)).2.1 (doR (ks A) q.k q.nm q.a q.b (numF S.L i)).2.2) (fun _ => ansV (doR (ks A) q.k q.nm q.a q.b (numF S.L i)).2.1 (doR (ks A) q.k q.nm q.a q.b (numF S.L i)).2.2) (fun z => ks z.2.1 = (doR (ks A) q.k q.nm q.a q.b (numF S.L i)).1 ∧ AllIn z.2.2 z.2.1 ∧ ∀ r ∈ G, r ∈ z.2.2) rfl rfl (fun _ => rfl) rfl rfl rfl (fun _ w1 hp1 hI1 hR => rmDo_ok hR hin hng ft (by omega) q.k q.nm q.a q.b (numF S.L i)) ?_
    rintro ⟨z1, A2, G2⟩ ⟨q1, q2, q3⟩
    dsimp only at q1 q2 q3
    rw [hD]
    generalize doR (ks A) q.k q.nm q.a q.b (numF S.L i) = D at q1
    (refine gs ?_)
    refine gw ?_
    by_cases e0 : D.2.2 = 0
    · have hb : badF S i ([], D.2) = false := by rw [hbad]; simp [s1, s2, e0]
      (repeat ((first | refine n_must rfl ?_ | refine n_chk (drawF_ok (by decide +kernel)) ?_ | refine n_same rfl ?_ | ((first | refine n_must ?_ ?_ | refine n_brT ?_ ?_); (focus (first | (simp [e0]; done) | (simp [e0]; omega) | (simp only [e0]; simp; done)))) | (refine n_brF ?_ ?_; (focus (first | (simp [e0]; done) | (simp [e0]; omega) | (simp only [e0]; simp; done)))) | refine n_must (by (with_reducible refine and_shape ?_) <;> kernel_rfl) ?_); (refine gs ?_)))
      rw [hb]
      refine n_ret0 rfl rfl fun ids' w' hp hI' => ⟨((x, z1), A2, G2), rfl, ⟨q1, q2, q3⟩, ?_⟩
      have hP := post_res (ρ := arRes G) hI' rfl 6 rfl rfl rfl
      exact hP.less (rma_both hP.2.1).1 (rma_both hP.2.1).2
    · have hb : badF S i ([], D.2) = true := by rw [hbad]; simp [s1, e0]
      (repeat ((first | refine n_must rfl ?_ | refine n_chk (drawF_ok (by decide +kernel)) ?_ | refine n_same rfl ?_ | ((first | refine n_must ?_ ?_ | refine n_brT ?_ ?_); (focus (first | (simp [e0]; done) | (simp [e0]; omega) | (simp only [e0]; simp; done)))) | (refine n_brF ?_ ?_; (focus (first | (simp [e0]; done) | (simp [e0]; omega) | (simp only [e0]; simp; done)))) | refine n_must (by (with_reducible refine and_shape ?_) <;> kernel_rfl) ?_); (refine gs ?_)))
      rw [hb]
      refine n_ret0 rfl rfl fun ids' w' hp hI' => ⟨((x, z1), A2, G2), rfl, ⟨q1, q2, q3⟩, ?_⟩
      have hP := post_res (ρ := arRes G) hI' rfl 6 rfl rfl rfl
      exact hP.less (rma_both hP.2.1).1 (rma_both hP.2.1).2
end
end Go.Proofs.Ytfcbcgjgkleonaa
