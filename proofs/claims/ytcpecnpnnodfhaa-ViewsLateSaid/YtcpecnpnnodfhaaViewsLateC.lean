/- The law ViewsLate of chapter 9 is true of the program: whatever the number of replicas and what is said: the call returns true, and the arguments read as before. -/
import Derived.Test.YtcpecnpnnodfhaaBnVj
import Derived.Test.YtcpecnpnnodfhaaRows
set_option maxRecDepth 100000
namespace Go.Proofs.Ytcpecnpnnodfhaa
open Go.ChangeShapes Go.WideShapes Go.ChangeAt Go.RowKit

theorem ViewsLate_lifted (os : Os) (started : os.Started) (H : Type) (enc : TypeId × Value → H) :
    ReturnsInHanded {} Try.checked os 8 .any (Rows.viewsLateSpec.pre6 enc Try.prog Try.f8 Rows.viewsLateRow.domain false) (Rows.viewsLateSpec.post enc Try.prog Try.f8 false true false false) := by
  refine returnsInHanded_of_change_sized (C := Try.checked) own started (by kernel_rfl) Try.func8
    (ChangeSpec.witness6 (enc := enc) (C := Try.checked) false ⟨#[], #[.int .i64 0, .slice none 0 0, .slice none 0 0], []⟩ 8 (by kernel_rfl) (by kernel_rfl) (by kernel_rfl) (by kernel_rfl)) ?_
  intro W base args ds gs before hval0 hW hcnd hwt _
  have hval : ∀ (j : Nat) t v, Try.f8.params[j]? = some t → args[j]? = some v → Value.okWide Try.prog W .any base t v := hval0
  have hW' := hW
  obtain ⟨p, q, hA0, hV, rfl, hfz, hnd⟩ := hW
  have hA : DataW.TrodAll enc Try.prog W 0 (fun _ => true) true Try.f8.params.toList args.toList ds p := hA0
  obtain ⟨hgs, _⟩ := trodVars_none hV
  have hz : (DataW.weightsEach Try.prog Try.f8.params.toList ds).all (· ≤ reachBytes) = true := by
    have e1 : Try.f8.params.toList ++ Rows.viewsLateSpec.plain.varTypes Try.prog = Try.f8.params.toList := List.append_nil _
    have hwt' : (DataW.weightsEach Try.prog (Try.f8.params.toList ++ Rows.viewsLateSpec.plain.varTypes Try.prog) (ds ++ gs)).all (· ≤ reachBytes) = true := hwt
    rw [e1, hgs, List.append_nil] at hwt'
    exact hwt'
  rw [Try.params8] at hA hval
  refine Calls.mono (R := fun e W' => e = .returned (.bool true) ∧ Frm [] W W') ?_ (fun e W' ⟨he, hf⟩ => ⟨_, he, law_post (tb := 4) (by kernel_rfl) (by kernel_rfl) (by kernel_rfl) Try.underlying4 rfl (fun ds h => ?_) hW' hf⟩)
  · obtain ⟨v0, vs0, d0, ds0, p0, q0, e0, rfl, rfl, t0, hA⟩ := trodAll_cons hA
    obtain ⟨v1, vs1, d1, ds1, p1, q1, rfl, rfl, rfl, t1, hA⟩ := trodAll_cons hA
    obtain ⟨v2, vs2, d2, ds2, p2, q2, rfl, rfl, rfl, t2, hA⟩ := trodAll_cons hA
    obtain ⟨rfl, rfl, rfl⟩ := trodAll_nil hA
    obtain rfl : args = #[v0, v1, v2] := by cases args; simp_all
    obtain ⟨x0, rfl, rfl, rfl, w0⟩ := open_int Try.underlying3 (hval 0 _ v0 rfl rfl) t0
    obtain ⟨o, L, cap, rfl, hR, hl, hg⟩ := open_says (hval 1 _ v1 rfl rfl) t1 hz (j := 1) rfl rfl
    obtain ⟨o2, L2, cap2, rfl, hR2, hl2, hg2⟩ := open_says (hval 2 _ v2 rfl rfl) t2 hz (j := 2) rfl rfl
    exact ViewsLate_ok (wf_i64 w0) hR hR2 hg hg2 hl hl2
  · match ds, h with
    | [_, _, _], _ => rfl
theorem ViewsLate_holds : Rows.ViewsLateSaid :=
  OpenClaim.holds_of_wide 8 Try.f8 rfl rfl rfl rfl rfl rfl rfl ⟨rfl, rfl, rfl, rfl, rfl⟩ rfl rfl rfl rfl rfl (by kernel_rfl) Try.func8 (by kernel_rfl)
    (of_decide_eq_true (by kernel_rfl)) (by unfold Func.isWrapper; rw [if_neg (by decide +kernel)]; exact ⟨rfl, rfl⟩)
    (fun os started H enc _ => ViewsLate_lifted os started H enc)
#print axioms ViewsLate_holds
end Go.Proofs.Ytcpecnpnnodfhaa
