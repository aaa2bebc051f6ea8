/- The law ViewsMeet of chapter 9 is true of the program: whatever the number of replicas and what happens: the call returns true, and the arguments read as before. -/
import Derived.Test.YtcpecnpnnodfhaaBnVj
import Derived.Test.YtcpecnpnnodfhaaVyQ
import Derived.Test.YtcpecnpnnodfhaaRows
set_option maxRecDepth 100000
namespace Go.Proofs.Ytcpecnpnnodfhaa
open Go.ChangeShapes Go.WideShapes Go.ChangeAt Go.RowKit

theorem ViewsMeet_lifted (os : Os) (started : os.Started) (H : Type) (enc : TypeId × Value → H) :
    ReturnsInHanded {} Try.checked os 7 .any (Rows.viewsMeetSpec.pre6 enc Try.prog Try.f7 Rows.viewsMeetRow.domain false) (Rows.viewsMeetSpec.post enc Try.prog Try.f7 false true false false) := by
  refine returnsInHanded_of_change_sized (C := Try.checked) own started (by kernel_rfl) Try.func7
    (ChangeSpec.witness6 (enc := enc) (C := Try.checked) false ⟨#[], #[.int .i64 0, .slice none 0 0], []⟩ 8 (by kernel_rfl) (by kernel_rfl) (by kernel_rfl) (by kernel_rfl)) ?_
  intro W base args ds gs before hval0 hW hcnd hwt _
  have hval : ∀ (j : Nat) t v, Try.f7.params[j]? = some t → args[j]? = some v → Value.okWide Try.prog W .any base t v := hval0
  have hW' := hW
  obtain ⟨p, q, hA0, hV, rfl, hfz, hnd⟩ := hW
  have hA : DataW.TrodAll enc Try.prog W 0 (fun _ => true) true Try.f7.params.toList args.toList ds p := hA0
  obtain ⟨hgs, _⟩ := trodVars_none hV
  have hz : (DataW.weightsEach Try.prog Try.f7.params.toList ds).all (· ≤ reachBytes) = true := by
    have e1 : Try.f7.params.toList ++ Rows.viewsMeetSpec.plain.varTypes Try.prog = Try.f7.params.toList := List.append_nil _
    have hwt' : (DataW.weightsEach Try.prog (Try.f7.params.toList ++ Rows.viewsMeetSpec.plain.varTypes Try.prog) (ds ++ gs)).all (· ≤ reachBytes) = true := hwt
    rw [e1, hgs, List.append_nil] at hwt'
    exact hwt'
  rw [Try.params7] at hA hval
  refine Calls.mono (R := fun e W' => e = .returned (.bool true) ∧ Frm [] W W') ?_ (fun e W' ⟨he, hf⟩ => ⟨_, he, law_post (tb := 4) (by kernel_rfl) (by kernel_rfl) (by kernel_rfl) Try.underlying4 rfl (fun ds h => ?_) hW' hf⟩)
  · obtain ⟨v0, vs0, d0, ds0, p0, q0, e0, rfl, rfl, t0, hA⟩ := trodAll_cons hA
    obtain ⟨v1, vs1, d1, ds1, p1, q1, rfl, rfl, rfl, t1, hA⟩ := trodAll_cons hA
    obtain ⟨rfl, rfl, rfl⟩ := trodAll_nil hA
    obtain rfl : args = #[v0, v1] := by cases args; simp_all
    obtain ⟨x0, rfl, rfl, rfl, w0⟩ := open_int Try.underlying3 (hval 0 _ v0 rfl rfl) t0
    obtain ⟨o, L, cap, rfl, hR, hl, hg⟩ := open_says (hval 1 _ v1 rfl rfl) t1 hz (j := 1) rfl rfl
    exact ViewsMeet_ok (wf_i64 w0) hR hg hl
  · match ds, h with
    | [_, _], _ => rfl
theorem ViewsMeet_holds : Rows.ViewsMeetSaid :=
  OpenClaim.holds_of_wide 7 Try.f7 rfl rfl rfl rfl rfl rfl rfl ⟨rfl, rfl, rfl, rfl, rfl⟩ rfl rfl rfl rfl rfl (by kernel_rfl) Try.func7 (by kernel_rfl)
    (of_decide_eq_true (by kernel_rfl)) (by unfold Func.isWrapper; rw [if_neg (by decide +kernel)]; exact ⟨rfl, rfl⟩)
    (fun os started H enc _ => ViewsMeet_lifted os started H enc)
#print axioms ViewsMeet_holds
end Go.Proofs.Ytcpecnpnnodfhaa
