/- The law ViewsRefused of chapter 9 is true of the program: whatever the number of replicas, what is said, the wrong view and its place: the call returns true, and the arguments read as before. -/
import Derived.Test.YtcpecnpnnodfhaaBnVj
import Derived.Test.YtcpecnpnnodfhaaVyM
import Derived.Test.YtcpecnpnnodfhaaRows
set_option maxRecDepth 100000
namespace Go.Proofs.Ytcpecnpnnodfhaa
open Go.ChangeShapes Go.WideShapes Go.ChangeAt Go.RowKit

theorem open_view {H : Type} {enc : TypeId × Value → H} {w : World} {base : Nat} {spare : Nat → Bool} {held : Bool} {v : Value} {d : DataW H} {p : List MemPlace} (hv : Value.okWide Try.prog w .any base 49 v) (h : DataW.Trod enc Try.prog w 0 spare held 49 v d p) : ∃ x : Vw, v = x.val ∧ i64 x.ver := by
  obtain ⟨cs, rfl, _⟩ := okWide_struct Try.underlying49 hv
  have hfit := leaves_fits (ls := [.str, .int .i64, .int .i64, .int .i64, .int .i64, .int .i64, .int .i64]) 5 (by kernel_rfl) h.choose_spec
  obtain ⟨v0, r0, e0, ⟨x0, rfl, w0⟩, h0⟩ := hfit.inv
  obtain ⟨v1, r1, rfl, ⟨x1, rfl, w1⟩, h1⟩ := h0.inv
  obtain ⟨v2, r2, rfl, ⟨x2, rfl, w2⟩, h2⟩ := h1.inv
  obtain ⟨v3, r3, rfl, ⟨x3, rfl, w3⟩, h3⟩ := h2.inv
  obtain ⟨v4, r4, rfl, ⟨x4, rfl, w4⟩, h4⟩ := h3.inv
  obtain ⟨v5, r5, rfl, ⟨x5, rfl, w5⟩, h5⟩ := h4.inv
  obtain ⟨v6, r6, rfl, ⟨x6, rfl, w6⟩, h6⟩ := h5.inv
  obtain rfl := h6.inv0
  refine ⟨⟨x0, x1, x2, x3, x4, x5, x6⟩, ?_, wf_i64 w3⟩
  have e1 : cs.toList = (⟨x0, x1, x2, x3, x4, x5, x6⟩ : Vw).l := e0
  show Value.agg cs = Value.agg (⟨x0, x1, x2, x3, x4, x5, x6⟩ : Vw).l.toArray
  rw [← e1]
theorem ViewsRefused_lifted (os : Os) (started : os.Started) (H : Type) (enc : TypeId × Value → H) :
    ReturnsInHanded {} Try.checked os 9 .any (Rows.viewsRefusedSpec.pre6 enc Try.prog Try.f9 Rows.viewsRefusedRow.domain false) (Rows.viewsRefusedSpec.post enc Try.prog Try.f9 false true false false) := by
  refine returnsInHanded_of_change_sized (C := Try.checked) own started (by kernel_rfl) Try.func9
    (ChangeSpec.witness6 (enc := enc) (C := Try.checked) false ⟨#[], #[.int .i64 0, .slice none 0 0, Vw.zero.val, .int .i64 0], []⟩ 8 (by kernel_rfl) (by kernel_rfl) (by kernel_rfl) (by kernel_rfl)) ?_
  intro W base args ds gs before hval0 hW hcnd hwt _
  have hval : ∀ (j : Nat) t v, Try.f9.params[j]? = some t → args[j]? = some v → Value.okWide Try.prog W .any base t v := hval0
  have hW' := hW
  obtain ⟨p, q, hA0, hV, rfl, hfz, hnd⟩ := hW
  have hA : DataW.TrodAll enc Try.prog W 0 (fun _ => true) true Try.f9.params.toList args.toList ds p := hA0
  obtain ⟨hgs, _⟩ := trodVars_none hV
  have hz : (DataW.weightsEach Try.prog Try.f9.params.toList ds).all (· ≤ reachBytes) = true := by
    have e1 : Try.f9.params.toList ++ Rows.viewsRefusedSpec.plain.varTypes Try.prog = Try.f9.params.toList := List.append_nil _
    have hwt' : (DataW.weightsEach Try.prog (Try.f9.params.toList ++ Rows.viewsRefusedSpec.plain.varTypes Try.prog) (ds ++ gs)).all (· ≤ reachBytes) = true := hwt
    rw [e1, hgs, List.append_nil] at hwt'
    exact hwt'
  rw [Try.params9] at hA hval
  refine Calls.mono (R := fun e W' => e = .returned (.bool true) ∧ Frm [] W W') ?_ (fun e W' ⟨he, hf⟩ => ⟨_, he, law_post (tb := 4) (by kernel_rfl) (by kernel_rfl) (by kernel_rfl) Try.underlying4 rfl (fun ds h => ?_) hW' hf⟩)
  · obtain ⟨v0, vs0, d0, ds0, p0, q0, e0, rfl, rfl, t0, hA⟩ := trodAll_cons hA
    obtain ⟨v1, vs1, d1, ds1, p1, q1, rfl, rfl, rfl, t1, hA⟩ := trodAll_cons hA
    obtain ⟨v2, vs2, d2, ds2, p2, q2, rfl, rfl, rfl, t2, hA⟩ := trodAll_cons hA
    obtain ⟨v3, vs3, d3, ds3, p3, q3, rfl, rfl, rfl, t3, hA⟩ := trodAll_cons hA
    obtain ⟨rfl, rfl, rfl⟩ := trodAll_nil hA
    obtain rfl : args = #[v0, v1, v2, v3] := by cases args; simp_all
    obtain ⟨x0, rfl, rfl, rfl, w0⟩ := open_int Try.underlying3 (hval 0 _ v0 rfl rfl) t0
    obtain ⟨o, L, cap, rfl, hR, hl, hg⟩ := open_says (hval 1 _ v1 rfl rfl) t1 hz (j := 1) rfl rfl
    obtain ⟨x2, rfl, hx2⟩ := open_view (hval 2 _ v2 rfl rfl) t2
    obtain ⟨x3, rfl, rfl, rfl, w3⟩ := open_int Try.underlying3 (hval 3 _ v3 rfl rfl) t3
    exact ViewsRefused_ok (wf_i64 w0) (wf_i64 w3) hx2 hR hg hl
  · match ds, h with
    | [_, _, _, _], _ => rfl
theorem ViewsRefused_holds : Rows.ViewsRefusedSaid :=
  OpenClaim.holds_of_wide 9 Try.f9 rfl rfl rfl rfl rfl rfl rfl ⟨rfl, rfl, rfl, rfl, rfl⟩ rfl rfl rfl rfl rfl (by kernel_rfl) Try.func9 (by kernel_rfl)
    (of_decide_eq_true (by kernel_rfl)) (by unfold Func.isWrapper; rw [if_neg (by decide +kernel)]; exact ⟨rfl, rfl⟩)
    (fun os started H enc _ => ViewsRefused_lifted os started H enc)
#print axioms ViewsRefused_holds
end Go.Proofs.Ytcpecnpnnodfhaa
