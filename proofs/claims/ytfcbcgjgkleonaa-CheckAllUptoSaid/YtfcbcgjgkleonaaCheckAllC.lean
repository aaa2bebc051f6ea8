/- The law CheckAll of chapter 17, where what it reads is of bulk at most 1048576: whatever the cases: the call returns true, and the argument reads as before. -/
import Derived.Test.YtfcbcgjgkleonaaCuE
import Derived.Test.YtfcbcgjgkleonaaBnT
import Derived.Test.YtfcbcgjgkleonaaCkY
import Derived.Test.YtfcbcgjgkleonaaRows
import Derived.JoinedCond
set_option maxRecDepth 100000
set_option linter.unusedVariables false
namespace Go.Proofs.Ytfcbcgjgkleonaa
open Go.ChangeShapes Go.WideShapes Go.ChangeAt Go.RowKit

section
variable {H : Type} {enc : TypeId × Value → H} {w : World} {spare : Nat → Bool} {held : Bool}
theorem past_el {B n : Nat} {cs : List Value} {x : DataW H × List MemPlace} (h : DataW.trod enc Try.prog w 0 spare held n 55 cs = some x) : ∃ p : Pa, cs = p.l ∧ p.good := by
  have hfit := leaves_fits (ls := [.int .i64, .int .i64, .int .i64, .str, .int .i64, .int .i64, .int .i64, .int .i64, .int .i64, .int .i64]) 5 (by kernel_rfl) h
  obtain ⟨v0, r0, rfl, ⟨x0, rfl, w0⟩, h0⟩ := hfit.inv
  obtain ⟨v1, r1, rfl, ⟨x1, rfl, w1⟩, h1⟩ := h0.inv
  obtain ⟨v2, r2, rfl, ⟨x2, rfl, w2⟩, h2⟩ := h1.inv
  obtain ⟨v3, r3, rfl, ⟨x3, rfl, w3⟩, h3⟩ := h2.inv
  obtain ⟨v4, r4, rfl, ⟨x4, rfl, w4⟩, h4⟩ := h3.inv
  obtain ⟨v5, r5, rfl, ⟨x5, rfl, w5⟩, h5⟩ := h4.inv
  obtain ⟨v6, r6, rfl, ⟨x6, rfl, w6⟩, h6⟩ := h5.inv
  obtain ⟨v7, r7, rfl, ⟨x7, rfl, w7⟩, h7⟩ := h6.inv
  obtain ⟨v8, r8, rfl, ⟨x8, rfl, w8⟩, h8⟩ := h7.inv
  obtain ⟨v9, r9, rfl, ⟨x9, rfl, w9⟩, h9⟩ := h8.inv
  obtain rfl := h9.inv0
  exact ⟨⟨x0, x1, x2, x3, x4, x5, x6, x7, x8, x9⟩, rfl, wf_i64 w0, wf_i64 w1, w3, wf_i64 w4, wf_i64 w9⟩
theorem eff_el {B n : Nat} {cs : List Value} {x : DataW H × List MemPlace} (h : DataW.trod enc Try.prog w 0 spare held n 52 cs = some x) : ∃ p : Ef, cs = p.l ∧ p.good := by
  have hfit := leaves_fits (ls := [.int .i64, .int .i64, .int .i64, .int .i64, .str, .int .i64, .int .i64, .int .i64, .int .i64]) 5 (by kernel_rfl) h
  obtain ⟨v0, r0, rfl, ⟨x0, rfl, w0⟩, h0⟩ := hfit.inv
  obtain ⟨v1, r1, rfl, ⟨x1, rfl, w1⟩, h1⟩ := h0.inv
  obtain ⟨v2, r2, rfl, ⟨x2, rfl, w2⟩, h2⟩ := h1.inv
  obtain ⟨v3, r3, rfl, ⟨x3, rfl, w3⟩, h3⟩ := h2.inv
  obtain ⟨v4, r4, rfl, ⟨x4, rfl, w4⟩, h4⟩ := h3.inv
  obtain ⟨v5, r5, rfl, ⟨x5, rfl, w5⟩, h5⟩ := h4.inv
  obtain ⟨v6, r6, rfl, ⟨x6, rfl, w6⟩, h6⟩ := h5.inv
  obtain ⟨v7, r7, rfl, ⟨x7, rfl, w7⟩, h7⟩ := h6.inv
  obtain ⟨v8, r8, rfl, ⟨x8, rfl, w8⟩, h8⟩ := h7.inv
  obtain rfl := h8.inv0
  exact ⟨⟨x0, x1, x2, x3, x4, x5, x6, x7, x8⟩, rfl, wf_i64 w1, wf_i64 w2, w4, wf_i64 w5, wf_i64 w8⟩
theorem cellsCase : Try.prog.cellsOf 34 = 2 := by kernel_rfl
theorem cellsPastS : Try.prog.cellsOf 22 = 1 := by kernel_rfl
theorem cellsEffS : Try.prog.cellsOf 23 = 1 := by kernel_rfl
theorem case_el {n : Nat} {cs : List Value} {x : DataW H × List MemPlace} (hok : Small 1048576 34 x.1) (h : DataW.trod enc Try.prog w 0 spare held n 34 cs = some x) : ∃ c : Cs, cs = c.l ∧ c.good w := by
  obtain ⟨y0, y1, n', rfl, hlen, h0, h1⟩ := trod_struct2 Try.underlying34 h
  rw [cellsCase] at hlen
  match cs, hlen with
  | [u0, u1], _ =>
    simp only [cellsPastS, cellsEffS, List.drop_zero, List.take_succ_cons, List.take_zero, List.drop_succ_cons] at h0 h1
    obtain ⟨ho, hL, hc, e0, hR, hg, _, hl⟩ := open_list (F := Pa.l) (size := 10) (B := 1048576) (ok := Small 1048576) (good := Pa.good) pa_len (by omega) Try.underlying22 cellsPast small_slice (fun n cs x _ h => past_el (B := 0) h) h0 (small_agg hok (by simp))
    obtain ⟨eo, eL, ec, e1, hE, heg, _, hel⟩ := open_list (F := Ef.l) (size := 9) (B := 1048576) (ok := Small 1048576) (good := Ef.good) ef_len (by omega) Try.underlying23 cellsEff small_slice (fun n cs x _ h => eff_el (B := 0) h) h1 (small_agg hok (by simp))
    simp only [List.cons.injEq, and_true] at e0 e1
    subst e0; subst e1
    exact ⟨⟨ho, hc, hL, eo, ec, eL⟩, rfl, hR, hE, hg, heg, hl, hel⟩
end
theorem CheckAll_liftedU (os : Os) (started : os.Started) (H : Type) (enc : TypeId × Value → H) (F : Stop.Interp) :
    ReturnsInHanded {} Try.checked os 5 .any ((Rows.OpenSpec.upto Rows.checkAllSpec).pre6 enc Try.prog Try.f5 Rows.checkAllUptoRow.domain false) (((Rows.OpenSpec.upto Rows.checkAllSpec).at F).post enc Try.prog Try.f5 false true false false) := by
  refine returnsInHanded_of_cond (C := Try.checked) (s := Rows.OpenSpec.upto Rows.checkAllSpec) (k := Rows.uptoSmall) rfl own started (by kernel_rfl) Try.func5
    (OpenSpec.witness (enc := enc) (C := Try.checked) (s := Rows.OpenSpec.upto Rows.checkAllSpec) (k := Rows.uptoSmall) rfl false ⟨#[], #[.slice none 0 0], []⟩ 8 (by kernel_rfl) (by kernel_rfl) (by kernel_rfl)
      (x := ([.nil], [], [])) (by kernel_rfl) rfl (by kernel_rfl)) ?_
  intro W base args ds gs before hval0 hW hcnd hk _
  have hval : ∀ (j : Nat) t v, Try.f5.params[j]? = some t → args[j]? = some v → Value.okWide Try.prog W .any base t v := hval0
  have hW' := hW
  obtain ⟨p, q, hA0, hV, rfl, hfz, hnd⟩ := hW
  have hA : DataW.TrodAll enc Try.prog W 0 (fun _ => true) true Try.f5.params.toList args.toList ds p := hA0
  rw [Try.params5] at hA hval
  refine Calls.mono (R := fun e W' => e = .returned (.bool true) ∧ Frm [] W W') ?_ (fun e W' ⟨he, hf⟩ => ⟨_, he, law_post (tb := 4) (by kernel_rfl) (by kernel_rfl) (by kernel_rfl) Try.underlying4 rfl (fun ds h => ?_) hW' hf⟩)
  · obtain ⟨v0, vs0, d0, ds0, p0, q0, e0, rfl, rfl, t0, hA⟩ := trodAll_cons hA
    obtain ⟨rfl, rfl, rfl⟩ := trodAll_nil hA
    obtain rfl : args = #[v0] := by cases args; simp_all
    obtain ⟨o, L, cap, e, hR, hg, _, hl⟩ := open_list (F := Cs.l) (size := 2) (B := 1048576) (ok := Small 1048576) (good := Cs.good W) cs_len (by omega) Try.underlying27 cellsCase small_slice (fun n cs x hok h => case_el hok h) t0.choose_spec (small_arg hk (by simp) _)
    obtain ⟨a, len, cp, rfl⟩ := okWide_slice Try.underlying27 (hval 0 _ v0 rfl rfl)
    simp only [Value.cells, Array.toList, List.cons.injEq, and_true] at e
    rw [e]
    exact CheckAll_ok cap hR hg hl
  · match ds, h with
    | [_], _ => rfl
theorem CheckAll_holds : Rows.CheckAllUptoSaid :=
  OpenClaim.holds_of_cond 5 Try.f5 rfl rfl rfl rfl rfl rfl rfl ⟨rfl, rfl, rfl, rfl, rfl⟩ rfl rfl rfl rfl rfl (by kernel_rfl) Try.func5 (by kernel_rfl)
    (of_decide_eq_true (by kernel_rfl)) (by unfold Func.isWrapper; rw [if_neg (by decide +kernel)]; exact ⟨rfl, rfl⟩)
    (fun os started H enc _ F => CheckAll_liftedU os started H enc F)
#print axioms CheckAll_holds
end Go.Proofs.Ytfcbcgjgkleonaa
