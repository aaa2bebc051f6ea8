/- The law ViewsAll of chapter 9 is true of the program: whatever the two replicas, their number and the script: the call returns true, and the arguments read as before. -/
import Derived.Test.YtcpecnpnnodfhaaVxS
import Derived.Test.YtcpecnpnnodfhaaVxO
import Derived.Test.YtcpecnpnnodfhaaRows
set_option maxRecDepth 100000
namespace Go.Proofs.Ytcpecnpnnodfhaa
open Go.ChangeShapes Go.WideShapes Go.ChangeAt Go.RowKit

theorem ViewsAll_lifted (os : Os) (started : os.Started) (H : Type) (enc : TypeId × Value → H) :
    ReturnsInHanded {} Try.checked os 6 .any (Rows.viewsAllSpec.pre6 enc Try.prog Try.f6 Rows.viewsAllRow.domain false) (Rows.viewsAllSpec.post enc Try.prog Try.f6 false true false false) := by
  refine returnsInHanded_of_change_sized (C := Try.checked) own started (by kernel_rfl) Try.func6
    (ChangeSpec.witness6 (enc := enc) (C := Try.checked) false ⟨#[], #[.int .i64 0, .int .i64 0, .int .i64 0, .slice none 0 0], []⟩ 8 (by kernel_rfl) (by kernel_rfl) (by kernel_rfl) (by kernel_rfl)) ?_
  intro W base args ds gs before hval0 hW hcnd hwt _
  have hval : ∀ (j : Nat) t v, Try.f6.params[j]? = some t → args[j]? = some v → Value.okWide Try.prog W .any base t v := hval0
  have hW' := hW
  obtain ⟨p, q, hA0, hV, rfl, hfz, hnd⟩ := hW
  have hA : DataW.TrodAll enc Try.prog W 0 (fun _ => true) true Try.f6.params.toList args.toList ds p := hA0
  obtain ⟨hgs, _⟩ := trodVars_none hV
  have hz : (DataW.weightsEach Try.prog Try.f6.params.toList ds).all (· ≤ reachBytes) = true := by
    have e1 : Try.f6.params.toList ++ Rows.viewsAllSpec.plain.varTypes Try.prog = Try.f6.params.toList := List.append_nil _
    have hwt' : (DataW.weightsEach Try.prog (Try.f6.params.toList ++ Rows.viewsAllSpec.plain.varTypes Try.prog) (ds ++ gs)).all (· ≤ reachBytes) = true := hwt
    rw [e1, hgs, List.append_nil] at hwt'
    exact hwt'
  rw [Try.params6] at hA hval
  refine Calls.mono (R := fun e W' => e = .returned (.bool true) ∧ Frm [] W W') ?_ (fun e W' ⟨he, hf⟩ => ⟨_, he, law_post (tb := 4) (by kernel_rfl) (by kernel_rfl) (by kernel_rfl) Try.underlying4 rfl (fun ds h => ?_) hW' hf⟩)
  · obtain ⟨v0, vs0, d0, ds0, p0, q0, e0, rfl, rfl, t0, hA⟩ := trodAll_cons hA
    obtain ⟨v1, vs1, d1, ds1, p1, q1, rfl, rfl, rfl, t1, hA⟩ := trodAll_cons hA
    obtain ⟨v2, vs2, d2, ds2, p2, q2, rfl, rfl, rfl, t2, hA⟩ := trodAll_cons hA
    obtain ⟨v3, vs3, d3, ds3, p3, q3, rfl, rfl, rfl, t3, hA⟩ := trodAll_cons hA
    obtain ⟨rfl, rfl, rfl⟩ := trodAll_nil hA
    obtain rfl : args = #[v0, v1, v2, v3] := by cases args; simp_all
    obtain ⟨x0, rfl, rfl, rfl, w0⟩ := open_int Try.underlying3 (hval 0 _ v0 rfl rfl) t0
    obtain ⟨x1, rfl, rfl, rfl, w1⟩ := open_int Try.underlying3 (hval 1 _ v1 rfl rfl) t1
    obtain ⟨x2, rfl, rfl, rfl, w2⟩ := open_int Try.underlying3 (hval 2 _ v2 rfl rfl) t2
    obtain ⟨o, L, cap, rfl, hR, hl, hg⟩ := open_ops (hval 3 _ v3 rfl rfl) t3 (okw_arg hz (j := 3) rfl rfl)
    exact ViewsAll_ok hR hg hl
  · match ds, h with
    | [_, _, _, _], _ => rfl
theorem ViewsAll_holds : Rows.ViewsAllSaid :=
  OpenClaim.holds_of_wide 6 Try.f6 rfl rfl rfl rfl rfl rfl rfl ⟨rfl, rfl, rfl, rfl, rfl⟩ rfl rfl rfl rfl rfl (by kernel_rfl) Try.func6 (by kernel_rfl)
    (of_decide_eq_true (by kernel_rfl)) (by unfold Func.isWrapper; rw [if_neg (by decide +kernel)]; exact ⟨rfl, rfl⟩)
    (fun os started H enc _ => ViewsAll_lifted os started H enc)
#print axioms ViewsAll_holds
end Go.Proofs.Ytcpecnpnnodfhaa
