/- The law WheelOnce of chapter 5 is true of the program: whatever the number of slots, the delays and what is cancelled: the call returns true, and the arguments read as before. -/
import Derived.Test.YtjmaddmklogchaaWkZ
import Derived.Test.YtjmaddmklogchaaWkT
import Derived.Test.YtjmaddmklogchaaRows
set_option maxRecDepth 100000
set_option linter.unusedVariables false
namespace Go.Proofs.Ytjmaddmklogchaa
open Go.ChangeShapes Go.WideShapes Go.ChangeAt Go.RowKit

theorem cellsIn : Try.prog.cellsOf 3 = 1 := by kernel_rfl
theorem bytesIn : Try.prog.bytesOf 3 = 8 := by kernel_rfl
section
variable {H : Type} {enc : TypeId × Value → H} {w : World} {base : Nat} {spare : Nat → Bool} {held : Bool} {v : Value} {d : DataW H} {p : List MemPlace}
theorem open_ins (hv : Value.okWide Try.prog w .any base 40 v) (h : DataW.Trod enc Try.prog w 0 spare held 40 v d p) {ts : List TypeId} {ds : List (DataW H)}
    (hz : (DataW.weightsEach Try.prog ts ds).all (· ≤ reachBytes) = true) {j : Nat} (h1 : ts[j]? = some 40) (h2 : ds[j]? = some d) :
    ∃ (o : Option Addr) (L : List Int) (cap : Nat), v = .slice o L.length cap ∧ (inRes o L).R w ∧ L.length ≤ 9223372036854775806 ∧ ∀ m ∈ L, i64 m := by
  obtain ⟨o, n, cap, f, rfl, hle, hcap, hsl, hfit⟩ := open_leaves (ls := [.int .i64]) 5 Try.underlying40 (by kernel_rfl) cellsIn (by simp) hv h
  have hb := len_reach Try.underlying40 h hz h1 h2
  rw [bytesIn] at hb
  have hre : reachBytes = 140737488351232 := rfl
  obtain ⟨L, hL, hat⟩ := list_of (α := Int) (p := fun i m => f i = inL m ∧ i64 m) (n := n) fun i hi => by
    obtain ⟨v0, r0, e0, ⟨x0, rfl, w0⟩, h0⟩ := (hfit i hi).inv
    obtain rfl := h0.inv0
    exact ⟨x0, e0, wf_i64 w0⟩
  refine ⟨o, L, cap, by rw [hL], fun j u hu => ?_, by omega, fun m hm => ?_⟩
  · have hj : j < n * 1 := by
      have := (List.getElem?_eq_some_iff.1 hu).1
      rw [flat_len in_len, hL] at this
      exact this
    have hil : j / 1 < n := by omega
    have hr : j % 1 < 1 := Nat.mod_lt _ (by omega)
    have e1 : j = j / 1 * 1 + j % 1 := by omega
    have hx1 : L[j / 1]? = some L[j / 1] := List.getElem?_eq_getElem (by omega)
    obtain ⟨hf, _⟩ := hat _ _ hx1
    obtain ⟨a, ha, _, _, hc⟩ := hsl _ hil
    refine ⟨a, ha, ?_⟩
    rw [e1, flat_at in_len hx1 hr] at hu
    rw [e1]
    exact hc (j % 1) u (by rw [hf]; exact hu)
  · obtain ⟨i, hi⟩ := List.getElem?_of_mem hm
    exact (hat i m hi).2
end
theorem WheelOnce_lifted (os : Os) (started : os.Started) (H : Type) (enc : TypeId × Value → H) :
    ReturnsInHanded {} Try.checked os 8 .any (Rows.wheelOnceSpec.pre6 enc Try.prog Try.f8 Rows.wheelOnceRow.domain false) (Rows.wheelOnceSpec.post enc Try.prog Try.f8 false true false false) := by
  refine returnsInHanded_of_change_sized (C := Try.checked) own started (by kernel_rfl) Try.func8
    (ChangeSpec.witness6 (enc := enc) (C := Try.checked) false ⟨#[], #[.int .i64 0, .slice none 0 0, .slice none 0 0], []⟩ 8 (by kernel_rfl) (by kernel_rfl) (by kernel_rfl) (by kernel_rfl)) ?_
  intro W base args ds gs before hval0 hW hcnd hwt _
  have hval : ∀ (j : Nat) t v, Try.f8.params[j]? = some t → args[j]? = some v → Value.okWide Try.prog W .any base t v := hval0
  have hW' := hW
  obtain ⟨p, q, hA0, hV, rfl, hfz, hnd⟩ := hW
  have hA : DataW.TrodAll enc Try.prog W 0 (fun _ => true) true Try.f8.params.toList args.toList ds p := hA0
  obtain ⟨hgs, _⟩ := trodVars_none hV
  have hz : (DataW.weightsEach Try.prog Try.f8.params.toList ds).all (· ≤ reachBytes) = true := by
    have e1 : Try.f8.params.toList ++ Rows.wheelOnceSpec.plain.varTypes Try.prog = Try.f8.params.toList := List.append_nil _
    have hwt' : (DataW.weightsEach Try.prog (Try.f8.params.toList ++ Rows.wheelOnceSpec.plain.varTypes Try.prog) (ds ++ gs)).all (· ≤ reachBytes) = true := hwt
    rw [e1, hgs, List.append_nil] at hwt'
    exact hwt'
  rw [Try.params8] at hA hval
  refine Calls.mono (R := fun e W' => e = .returned (.bool true) ∧ Frm [] W W') ?_ (fun e W' ⟨he, hf⟩ => ⟨_, he, law_post (tb := 4) (by kernel_rfl) (by kernel_rfl) (by kernel_rfl) Try.underlying4 rfl (fun ds h => ?_) hW' hf⟩)
  · obtain ⟨v0, vs0, d0, ds0, p0, q0, e0, rfl, rfl, t0, hA⟩ := trodAll_cons hA
    obtain ⟨v1, vs1, d1, ds1, p1, q1, rfl, rfl, rfl, t1, hA⟩ := trodAll_cons hA
    obtain ⟨v2, vs2, d2, ds2, p2, q2, rfl, rfl, rfl, t2, hA⟩ := trodAll_cons hA
    obtain ⟨rfl, rfl, rfl⟩ := trodAll_nil hA
    obtain rfl : args = #[v0, v1, v2] := by cases args; simp_all
    obtain ⟨x0, rfl, rfl, rfl, w0⟩ := open_int Try.underlying3 (hval 0 _ v0 rfl rfl) t0
    obtain ⟨o, L, cap, rfl, hR, hl, hg⟩ := open_ins (hval 1 _ v1 rfl rfl) t1 hz (j := 1) rfl rfl
    obtain ⟨o3, L3, cap3, rfl, hR3, hl3, hg3⟩ := open_ins (hval 2 _ v2 rfl rfl) t2 hz (j := 2) rfl rfl
    exact WheelOnce_ok (wf_i64 w0) hR hg hl hR3 hg3 hl3
  · match ds, h with
    | [_, _, _], _ => rfl
theorem WheelOnce_holds : Rows.WheelOnceSaid :=
  OpenClaim.holds_of_wide 8 Try.f8 rfl rfl rfl rfl rfl rfl rfl ⟨rfl, rfl, rfl, rfl, rfl⟩ rfl rfl rfl rfl rfl (by kernel_rfl) Try.func8 (by kernel_rfl)
    (of_decide_eq_true (by kernel_rfl)) (by unfold Func.isWrapper; rw [if_neg (by decide +kernel)]; exact ⟨rfl, rfl⟩)
    (fun os started H enc _ => WheelOnce_lifted os started H enc)
#print axioms WheelOnce_holds
end Go.Proofs.Ytjmaddmklogchaa
