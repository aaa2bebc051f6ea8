/- The law AtomAgrees of chapter 16 is true of the program: Allows is Do on a copy, and another answer is not allowed: the call returns true, and the arguments read as before. -/
import Derived.Test.YteapjjkgbnnipaaAtT
import Derived.Test.YteapjjkgbnnipaaAtO
import Derived.Test.YteapjjkgbnnipaaRows
set_option maxRecDepth 100000
namespace Go.Proofs.Yteapjjkgbnnipaa
open Go.ChangeShapes Go.WideShapes Go.ChangeAt Go.RowKit

theorem AtomAgrees_lifted (os : Os) (started : os.Started) (H : Type) (enc : TypeId × Value → H) :
    ReturnsInHanded {} Try.checked os 5 .any (Rows.atomAgreesSpec.pre6 enc Try.prog Try.f5 Rows.atomAgreesRow.domain false) (Rows.atomAgreesSpec.post enc Try.prog Try.f5 false true false false) := by
  refine returnsInHanded_of_change (C := Try.checked) own started (by kernel_rfl) Try.func5
    (ChangeSpec.witness6 (enc := enc) (C := Try.checked) false ⟨#[], #[.slice none 0 0, .int .i64 0], []⟩ 8 (by kernel_rfl) (by kernel_rfl) (by kernel_rfl) (by kernel_rfl)) ?_
  intro W base args ds gs before hval0 hW hcnd _
  have hval : ∀ (j : Nat) t v, Try.f5.params[j]? = some t → args[j]? = some v → Value.okWide Try.prog W .any base t v := hval0
  have hW' := hW
  obtain ⟨p, q, hA0, hV, rfl, hfz, hnd⟩ := hW
  have hA : DataW.TrodAll enc Try.prog W 0 (fun _ => true) true Try.f5.params.toList args.toList ds p := hA0
  rw [Try.params5] at hA hval
  refine Calls.mono (R := fun e W' => e = .returned (.bool true) ∧ Frm [] W W') ?_ (fun e W' ⟨he, hf⟩ => ⟨_, he, law_post (tb := 4) (by kernel_rfl) (by kernel_rfl) (by kernel_rfl) Try.underlying4 rfl (fun ds h => ?_) hW' hf⟩)
  · obtain ⟨v0, vs0, d0, ds0, p0, q0, e0, rfl, rfl, t0, hA⟩ := trodAll_cons hA
    obtain ⟨v1, vs1, d1, ds1, p1, q1, rfl, rfl, rfl, t1, hA⟩ := trodAll_cons hA
    obtain ⟨rfl, rfl, rfl⟩ := trodAll_nil hA
    obtain rfl : args = #[v0, v1] := by cases args; simp_all
    obtain ⟨o, n, cap, f, rfl, hacts⟩ := open_acts (hval 0 _ v0 rfl rfl) t0
    obtain ⟨x1, rfl, rfl, rfl, w1⟩ := open_int Try.underlying3 (hval 1 _ v1 rfl rfl) t1
    exact AtomAgrees_ok hacts cap x1 (wf_i64 w1)
  · match ds, h with
    | [_, _], _ => rfl
theorem AtomAgrees_holds : Rows.AtomAgreesSaid :=
  OpenClaim.holds_of_wide 5 Try.f5 rfl rfl rfl rfl rfl rfl rfl ⟨rfl, rfl, rfl, rfl, rfl⟩ rfl rfl rfl rfl rfl (by kernel_rfl) Try.func5 (by kernel_rfl)
    (of_decide_eq_true (by kernel_rfl)) (by unfold Func.isWrapper; rw [if_neg (by decide +kernel)]; exact ⟨rfl, rfl⟩)
    (fun os started H enc _ => AtomAgrees_lifted os started H enc)
#print axioms AtomAgrees_holds
end Go.Proofs.Yteapjjkgbnnipaa
