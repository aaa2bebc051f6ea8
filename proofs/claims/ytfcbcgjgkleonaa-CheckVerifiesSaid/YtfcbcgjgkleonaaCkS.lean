/- Chapter 17's law: copies with a mark, lists that are the same, verifies. -/
import Derived.Test.YtfcbcgjgkleonaaCkM
import Derived.Test.YtfcbcgjgkleonaaSl
set_option maxRecDepth 100000
set_option linter.unusedSimpArgs false
set_option linter.unusedVariables false
set_option maxHeartbeats 8000000
namespace Go.Proofs.Ytfcbcgjgkleonaa
open Go.RowKit

theorem elemPast : sliceElem Try.prog 22 = some 55 := by kernel_rfl
theorem infoPast : (Try.prog.info? 55).map (fun i => (i.zero, i.size, i.bytes)) = some (some (.agg #[.int .i64 0, .int .i64 0, .int .i64 0, .string { data := #[] }, .int .i64 0, .int .i64 0, .int .i64 0, .int .i64 0, .int .i64 0, .int .i64 0]), 10, 88) := by kernel_rfl
theorem elemEff : sliceElem Try.prog 23 = some 52 := by kernel_rfl
theorem infoEff : (Try.prog.info? 52).map (fun i => (i.zero, i.size, i.bytes)) = some (some (.agg #[.int .i64 0, .int .i64 0, .int .i64 0, .int .i64 0, .string { data := #[] }, .int .i64 0, .int .i64 0, .int .i64 0, .int .i64 0]), 9, 80) := by kernel_rfl
abbrev paRow (y : Option Addr × Nat) (L : List Pa) : Res := rowRes 55 10 y.1 L.length y.2 (L.flatMap Pa.l)
abbrev efRow (y : Option Addr × Nat) (E : List Ef) : Res := rowRes 52 9 y.1 E.length y.2 (E.flatMap Ef.l)
abbrev paMark : Pa := ⟨0, 0, 0, { data := #[] }, 0, 0, -77, 0, 0, 0⟩
abbrev efMark : Ef := ⟨-77, 0, 0, 0, { data := #[] }, 0, 0, 0, 0⟩
theorem one_pa (L : List Pa) : ∀ u ∈ L.flatMap Pa.l, u.oneCell' = true := by
  intro u hu
  obtain ⟨p, _, hu⟩ := List.mem_flatMap.1 hu
  simp at hu
  rcases hu with rfl | rfl | rfl | rfl | rfl | rfl | rfl | rfl | rfl | rfl <;> rfl
theorem one_ef (E : List Ef) : ∀ u ∈ E.flatMap Ef.l, u.oneCell' = true := by
  intro u hu
  obtain ⟨p, _, hu⟩ := List.mem_flatMap.1 hu
  simp at hu
  rcases hu with rfl | rfl | rfl | rfl | rfl | rfl | rfl | rfl | rfl <;> rfl
theorem lent_ok {o : Option Addr} {L : List Pa} {w : World} (cap : Nat) (hR : (paRes o L).R w) (hlt : ∀ x ∈ (paRes o L).fp, x < w.heap.size) (hl : L.length ≤ 1599289640390) :
    Calls Try.prog 22 #[.slice o L.length cap] w fun e w' => ∃ y : Nat × Nat, e = .returned (.slice (some ⟨y.1, 0, none⟩) (L.length + 1) y.2) ∧ L.length + 1 ≤ y.2 ∧ FreshR w w' (paRow (some ⟨y.1, 0, none⟩, y.2) (L ++ [paMark])) := by
  obtain ⟨it, hit, hparts⟩ := Option.map_eq_some_iff.1 infoPast
  simp only [Prod.mk.injEq] at hparts
  have hI : Inv (cx 10 [] [] w) w [0] [⟨55, [.res (paRes o L)], false⟩] := (Inv.nil w).consR (by simp) hR hlt (by simp)
  refine calls_sm (cx 10 [] [] w) (vals := [.raw (.slice o L.length cap)]) mixed Try.func22 rfl rfl rfl hI rfl (st rfl ?_); conv => arg 3; whnf
  (repeat ((first | refine n_must rfl ?_ | refine n_chk (drawF_ok (by decide +kernel)) ?_ | refine n_same rfl ?_ | (refine n_brT ?_ ?_; (focus (simp <;> fail))) | (refine n_brF ?_ ?_; (focus (simp <;> fail)))); (refine st rfl ?_; conv => arg 3; whnf)))
  refine n_appendN (nv := L.flatMap Pa.l) rfl rfl rfl elemPast hit hparts.1 hparts.2.1 hparts.2.2 rfl (by omega) rfl rfl (by rw [flat_len pa_len]) (fun _ w1 _ hI1 => hI1.res 0 rfl rfl) (one_pa L) (by omega) (by omega) ?_
  intro y hy
  (refine st rfl ?_; conv => arg 3; whnf)
  (repeat ((first | refine n_must rfl ?_ | refine n_chk (drawF_ok (by decide +kernel)) ?_ | refine n_same rfl ?_ | ((first | refine n_must ?_ ?_ | refine n_brT ?_ ?_); (focus (first | (simp; done) | (simp; omega)))) | (refine n_brF ?_ ?_; (focus (first | (simp; done) | (simp; omega)))) | refine n_must (by (with_reducible refine and_shape ?_) <;> kernel_rfl) ?_); (refine st rfl ?_; conv => arg 3; whnf)))
  refine n_build1 rfl rfl elemPast rfl rfl rfl rfl rfl rfl rfl rfl rfl ?_
  (refine st rfl ?_; conv => arg 3; whnf)
  (repeat ((first | refine n_must rfl ?_ | refine n_chk (drawF_ok (by decide +kernel)) ?_ | refine n_same rfl ?_ | ((first | refine n_must ?_ ?_ | refine n_brT ?_ ?_); (focus (first | (simp; done) | (simp; omega)))) | (refine n_brF ?_ ?_; (focus (first | (simp; done) | (simp; omega)))) | refine n_must (by (with_reducible refine and_shape ?_) <;> kernel_rfl) ?_); (refine st rfl ?_; conv => arg 3; whnf)))
  refine n_append (nv := paMark.l) 1 rfl rfl elemPast hit hparts.1 hparts.2.1 hparts.2.2 rfl (by omega) rfl rfl rfl rfl rfl rfl (by omega) (by simp [Value.oneCell']) (by omega) (by omega) (show L.flatMap Pa.l ++ paMark.l = (L ++ [paMark]).flatMap Pa.l by simp) fun g' ca' => ?_
  (refine st rfl ?_; conv => arg 3; whnf)
  (repeat ((first | refine n_must rfl ?_ | refine n_chk (drawF_ok (by decide +kernel)) ?_ | refine n_same rfl ?_ | ((first | refine n_must ?_ ?_ | refine n_brT ?_ ?_); (focus (first | (simp; done) | (simp; omega)))) | (refine n_brF ?_ ?_; (focus (first | (simp; done) | (simp; omega)))) | refine n_must (by (with_reducible refine and_shape ?_) <;> kernel_rfl) ?_); (refine st rfl ?_; conv => arg 3; whnf)))
  refine n_ret0 rfl rfl fun ids' w' hp hI' => ⟨(g', ca'), rfl, ?_, ?_⟩
  · have h := hI'.res 1 rfl rfl
    rcases h.2 with ⟨_, h0⟩ | ⟨_, _, _, e1, _, _, h2, _⟩
    · omega
    · simp only [Value.slice.injEq] at e1
      obtain ⟨_, _, rfl⟩ := e1
      exact h2
  · have hlen : (L ++ [paMark]).length = L.length + 1 := by simp
    unfold paRow FreshR
    rw [hlen]
    exact ⟨hI'.frm, hI'.res 1 rfl rfl, hI'.res_new 1 rfl rfl rfl (by simp), hI'.resLt 1 rfl rfl⟩

/-! ### Lists that are the same -/
theorem samePast_ok {o o2 : Option Addr} {L : List Pa} {w : World} (cap cap2 : Nat) (hR : (paRes o L).R w) (hlt : ∀ x ∈ (paRes o L).fp, x < w.heap.size) (hR2 : (paRes o2 L).R w) (hlt2 : ∀ x ∈ (paRes o2 L).fp, x < w.heap.size) (hap : ∀ x ∈ (paRes o L).fp, x ∉ (paRes o2 L).fp) (hl : L.length ≤ 9223372036854775806) :
    Calls Try.prog 24 #[.slice o L.length cap, .slice o2 L.length cap2] w fun e w' => e = .returned (.bool true) ∧ Frm [] w w' := by
  have hI0 : Inv (cx 26 [] [] w) w [0] [⟨55, [.res (paRes o L)], false⟩] := (Inv.nil w).consR (by simp) hR hlt (by simp)
  have hI := hI0.consR (t := 55) (rw_ := false) (r := paRes o2 L) (fun x hx hm => hap x (by simpa [fpsOf, fpOf, resOf] using hm) hx) hR2 hlt2 (by simp)
  refine calls_sm (cx 26 [] [] w) (vals := [.raw (.slice o L.length cap), .raw (.slice o2 L.length cap2)]) mixed Try.func24 rfl rfl rfl hI rfl (st rfl ?_); conv => arg 3; whnf
  (repeat ((first | refine n_must rfl ?_ | refine n_chk (drawF_ok (by decide +kernel)) ?_ | refine n_same rfl ?_ | ((first | refine n_must ?_ ?_ | refine n_brT ?_ ?_); (focus (first | (simp; done) | (simp; omega)))) | (refine n_brF ?_ ?_; (focus (first | (simp; done) | (simp; omega)))) | refine n_must (by (with_reducible refine and_shape ?_) <;> kernel_rfl) ?_); (refine st rfl ?_; conv => arg 3; whnf)))
  refine n_loop (σ := Nat) (fun i => [(0, .raw (.slice o L.length cap)), (1, .raw (.slice o2 L.length cap2)), (5, .int .i64 (i : Nat))]) (fun _ => [⟨55, [.res (paRes o L)], false⟩, ⟨55, [.res (paRes o2 L)], false⟩]) (fun i => i ≤ L.length) (fun i => L.length - i) 0 mixed (by omega) (fun _ _ => rfl) rfl (by (repeat (first | exact trivial | refine ⟨⟨rfl, rfl⟩, ?_⟩))) (fun s _ => ⟨by (repeat (first | exact trivial | refine ⟨⟨_, rfl⟩, ?_⟩)), by (repeat (first | exact trivial | refine ⟨⟨_, rfl⟩, ?_⟩))⟩) fun i hi => ?_
  (refine st rfl ?_; conv => arg 3; whnf)
  by_cases hlt3 : i < L.length
  · have ei : IntKind.i64.wrap ((i : Int) + 1) = ((i + 1 : Nat) : Int) := by rw [w64 (by omega) (by omega)]; simp
    obtain ⟨ad, rfl⟩ := rd_some pa_len (by omega) hR (by omega)
    obtain ⟨ad2, rfl⟩ := rd_some pa_len (by omega) hR2 (by omega)
    have hx : L[i]? = some L[i] := List.getElem?_eq_getElem _
    generalize L[i] = p at hx
    (repeat ((first | refine n_must rfl ?_ | refine n_chk (drawF_ok (by decide +kernel)) ?_ | refine n_same rfl ?_ | ((first | refine n_must ?_ ?_ | refine n_brT ?_ ?_); (focus (first | (simp; done) | (simp; omega)))) | (refine n_brF ?_ ?_; (focus (first | (simp; done) | (simp; omega)))) | refine n_must (by (with_reducible refine and_shape ?_) <;> kernel_rfl) ?_); (refine st rfl ?_; conv => arg 3; whnf)))
    refine n_ldDI (.agg p.sv) rfl rfl (fun _ w1 _ hI1 => pa_row (hI1.res 0 rfl rfl) hx rfl) ?_
    (refine st rfl ?_; conv => arg 3; whnf)
    (repeat ((first | refine n_must rfl ?_ | refine n_chk (drawF_ok (by decide +kernel)) ?_ | refine n_same rfl ?_ | ((first | refine n_must ?_ ?_ | refine n_brT ?_ ?_); (focus (first | (simp; done) | (simp; omega)))) | (refine n_brF ?_ ?_; (focus (first | (simp; done) | (simp; omega)))) | refine n_must (by (with_reducible refine and_shape ?_) <;> kernel_rfl) ?_); (refine st rfl ?_; conv => arg 3; whnf)))
    refine n_ldDI (.agg p.sv) rfl rfl (fun _ w1 _ hI1 => pa_row (hI1.res 1 rfl rfl) hx rfl) ?_
    (refine st rfl ?_; conv => arg 3; whnf)
    (repeat ((first | refine n_must rfl ?_ | refine n_chk (drawF_ok (by decide +kernel)) ?_ | refine n_same rfl ?_ | ((first | refine n_must ?_ ?_ | refine n_brT ?_ ?_); (focus (first | (simp; done) | (simp; omega)))) | (refine n_brF ?_ ?_; (focus (first | (simp; done) | (simp; omega)))) | refine n_must (by (with_reducible refine and_shape ?_) <;> kernel_rfl) ?_); (refine st rfl ?_; conv => arg 3; whnf)))
    exact n_again ⟨i + 1, by omega, by omega, (by (repeat (first | exact trivial | refine ⟨⟨rfl, rfl⟩, ?_⟩ | refine ⟨⟨rfl, congrArg (SV.int .i64) ei⟩, ?_⟩))), ⟨_, rfl⟩⟩
  · obtain rfl : i = L.length := by omega
    (repeat ((first | refine n_must rfl ?_ | refine n_chk (drawF_ok (by decide +kernel)) ?_ | refine n_same rfl ?_ | ((first | refine n_must ?_ ?_ | refine n_brT ?_ ?_); (focus (first | (simp; done) | (simp; omega)))) | (refine n_brF ?_ ?_; (focus (first | (simp; done) | (simp; omega)))) | refine n_must (by (with_reducible refine and_shape ?_) <;> kernel_rfl) ?_); (refine st rfl ?_; conv => arg 3; whnf)))
    refine n_exit rfl ?_
    (refine st rfl ?_; conv => arg 3; whnf)
    (repeat ((first | refine n_must rfl ?_ | refine n_chk (drawF_ok (by decide +kernel)) ?_ | refine n_same rfl ?_ | ((first | refine n_must ?_ ?_ | refine n_brT ?_ ?_); (focus (first | (simp; done) | (simp; omega)))) | (refine n_brF ?_ ?_; (focus (first | (simp; done) | (simp; omega)))) | refine n_must (by (with_reducible refine and_shape ?_) <;> kernel_rfl) ?_); (refine st rfl ?_; conv => arg 3; whnf)))
    exact n_ret0 rfl rfl fun ids' w' hp hI' => ⟨rfl, hI'.frm⟩
theorem sameEffects_ok {o o2 : Option Addr} {L : List Ef} {w : World} (cap cap2 : Nat) (hR : (efRes o L).R w) (hlt : ∀ x ∈ (efRes o L).fp, x < w.heap.size) (hR2 : (efRes o2 L).R w) (hlt2 : ∀ x ∈ (efRes o2 L).fp, x < w.heap.size) (hap : ∀ x ∈ (efRes o L).fp, x ∉ (efRes o2 L).fp) (hl : L.length ≤ 9223372036854775806) :
    Calls Try.prog 25 #[.slice o L.length cap, .slice o2 L.length cap2] w fun e w' => e = .returned (.bool true) ∧ Frm [] w w' := by
  have hI0 : Inv (cx 26 [] [] w) w [0] [⟨52, [.res (efRes o L)], false⟩] := (Inv.nil w).consR (by simp) hR hlt (by simp)
  have hI := hI0.consR (t := 52) (rw_ := false) (r := efRes o2 L) (fun x hx hm => hap x (by simpa [fpsOf, fpOf, resOf] using hm) hx) hR2 hlt2 (by simp)
  refine calls_sm (cx 26 [] [] w) (vals := [.raw (.slice o L.length cap), .raw (.slice o2 L.length cap2)]) mixed Try.func25 rfl rfl rfl hI rfl (st rfl ?_); conv => arg 3; whnf
  (repeat ((first | refine n_must rfl ?_ | refine n_chk (drawF_ok (by decide +kernel)) ?_ | refine n_same rfl ?_ | ((first | refine n_must ?_ ?_ | refine n_brT ?_ ?_); (focus (first | (simp; done) | (simp; omega)))) | (refine n_brF ?_ ?_; (focus (first | (simp; done) | (simp; omega)))) | refine n_must (by (with_reducible refine and_shape ?_) <;> kernel_rfl) ?_); (refine st rfl ?_; conv => arg 3; whnf)))
  refine n_loop (σ := Nat) (fun i => [(0, .raw (.slice o L.length cap)), (1, .raw (.slice o2 L.length cap2)), (5, .int .i64 (i : Nat))]) (fun _ => [⟨52, [.res (efRes o L)], false⟩, ⟨52, [.res (efRes o2 L)], false⟩]) (fun i => i ≤ L.length) (fun i => L.length - i) 0 mixed (by omega) (fun _ _ => rfl) rfl (by (repeat (first | exact trivial | refine ⟨⟨rfl, rfl⟩, ?_⟩))) (fun s _ => ⟨by (repeat (first | exact trivial | refine ⟨⟨_, rfl⟩, ?_⟩)), by (repeat (first | exact trivial | refine ⟨⟨_, rfl⟩, ?_⟩))⟩) fun i hi => ?_
  (refine st rfl ?_; conv => arg 3; whnf)
  by_cases hlt3 : i < L.length
  · have ei : IntKind.i64.wrap ((i : Int) + 1) = ((i + 1 : Nat) : Int) := by rw [w64 (by omega) (by omega)]; simp
    obtain ⟨ad, rfl⟩ := rd_some ef_len (by omega) hR (by omega)
    obtain ⟨ad2, rfl⟩ := rd_some ef_len (by omega) hR2 (by omega)
    have hx : L[i]? = some L[i] := List.getElem?_eq_getElem _
    generalize L[i] = p at hx
    (repeat ((first | refine n_must rfl ?_ | refine n_chk (drawF_ok (by decide +kernel)) ?_ | refine n_same rfl ?_ | ((first | refine n_must ?_ ?_ | refine n_brT ?_ ?_); (focus (first | (simp; done) | (simp; omega)))) | (refine n_brF ?_ ?_; (focus (first | (simp; done) | (simp; omega)))) | refine n_must (by (with_reducible refine and_shape ?_) <;> kernel_rfl) ?_); (refine st rfl ?_; conv => arg 3; whnf)))
    refine n_ldDI (.agg p.sv) rfl rfl (fun _ w1 _ hI1 => ef_row (hI1.res 0 rfl rfl) hx rfl) ?_
    (refine st rfl ?_; conv => arg 3; whnf)
    (repeat ((first | refine n_must rfl ?_ | refine n_chk (drawF_ok (by decide +kernel)) ?_ | refine n_same rfl ?_ | ((first | refine n_must ?_ ?_ | refine n_brT ?_ ?_); (focus (first | (simp; done) | (simp; omega)))) | (refine n_brF ?_ ?_; (focus (first | (simp; done) | (simp; omega)))) | refine n_must (by (with_reducible refine and_shape ?_) <;> kernel_rfl) ?_); (refine st rfl ?_; conv => arg 3; whnf)))
    refine n_ldDI (.agg p.sv) rfl rfl (fun _ w1 _ hI1 => ef_row (hI1.res 1 rfl rfl) hx rfl) ?_
    (refine st rfl ?_; conv => arg 3; whnf)
    (repeat ((first | refine n_must rfl ?_ | refine n_chk (drawF_ok (by decide +kernel)) ?_ | refine n_same rfl ?_ | ((first | refine n_must ?_ ?_ | refine n_brT ?_ ?_); (focus (first | (simp; done) | (simp; omega)))) | (refine n_brF ?_ ?_; (focus (first | (simp; done) | (simp; omega)))) | refine n_must (by (with_reducible refine and_shape ?_) <;> kernel_rfl) ?_); (refine st rfl ?_; conv => arg 3; whnf)))
    exact n_again ⟨i + 1, by omega, by omega, (by (repeat (first | exact trivial | refine ⟨⟨rfl, rfl⟩, ?_⟩ | refine ⟨⟨rfl, congrArg (SV.int .i64) ei⟩, ?_⟩))), ⟨_, rfl⟩⟩
  · obtain rfl : i = L.length := by omega
    (repeat ((first | refine n_must rfl ?_ | refine n_chk (drawF_ok (by decide +kernel)) ?_ | refine n_same rfl ?_ | ((first | refine n_must ?_ ?_ | refine n_brT ?_ ?_); (focus (first | (simp; done) | (simp; omega)))) | (refine n_brF ?_ ?_; (focus (first | (simp; done) | (simp; omega)))) | refine n_must (by (with_reducible refine and_shape ?_) <;> kernel_rfl) ?_); (refine st rfl ?_; conv => arg 3; whnf)))
    refine n_exit rfl ?_
    (refine st rfl ?_; conv => arg 3; whnf)
    (repeat ((first | refine n_must rfl ?_ | refine n_chk (drawF_ok (by decide +kernel)) ?_ | refine n_same rfl ?_ | ((first | refine n_must ?_ ?_ | refine n_brT ?_ ?_); (focus (first | (simp; done) | (simp; omega)))) | (refine n_brF ?_ ?_; (focus (first | (simp; done) | (simp; omega)))) | refine n_must (by (with_reducible refine and_shape ?_) <;> kernel_rfl) ?_); (refine st rfl ?_; conv => arg 3; whnf)))
    exact n_ret0 rfl rfl fun ids' w' hp hI' => ⟨rfl, hI'.frm⟩
end Go.Proofs.Ytfcbcgjgkleonaa
