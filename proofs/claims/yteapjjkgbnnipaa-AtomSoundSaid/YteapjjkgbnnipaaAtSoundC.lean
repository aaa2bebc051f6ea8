/- The law AtomSound of chapter 16 is true of the program: over every list of acts the map's values, holds and caps stay in bounds, an error changes nothing, an op changes its own counter by what it says: the call returns true, and the arguments read as before. -/
import Derived.Test.YteapjjkgbnnipaaAtK
import Derived.Test.YteapjjkgbnnipaaRows
import Derived.Test.YteapjjkgbnnipaaRow
set_option maxRecDepth 100000
namespace Go.Proofs.Yteapjjkgbnnipaa
open Go.ChangeShapes Go.WideShapes Go.ChangeAt Go.RowKit

theorem own : ownKnob Try.prog.godebug = none := by kernel_rfl
theorem cellsAct : Try.prog.cellsOf 31 = 5 := by kernel_rfl
theorem open_acts {H : Type} {enc : TypeId × Value → H} {w : World} {base : Nat} {spare : Nat → Bool} {held : Bool} {v : Value} {d : DataW H} {p : List MemPlace} (hv : Value.okWide Try.prog w .any base 22 v)
    (h : DataW.Trod enc Try.prog w 0 spare held 22 v d p) : ∃ (o : Option Addr) (n cap : Nat) (f : Nat → Act5), v = .slice o n cap ∧ ActsAt w o n f := by
  obtain ⟨o, n, cap, f, rfl, hle, hcap, hsl, hfit⟩ := open_leaves (ls := [.int .i64, .str, .int .i64, .int .i64, .int .i64]) 4 Try.underlying22 (by kernel_rfl) cellsAct (by simp) hv h
  let g : Nat → Act5 := fun i => ⟨intOfV ((f i).getD 0 default), strOfV ((f i).getD 1 default), intOfV ((f i).getD 2 default), intOfV ((f i).getD 3 default), intOfV ((f i).getD 4 default)⟩
  have key : ∀ i, i < n → f i = (g i).cells ∧ (g i).good := by
    intro i hi
    obtain ⟨v0, r0, e0, ⟨x0, rfl, w0⟩, h0⟩ := (hfit i hi).inv
    obtain ⟨v1, r1, rfl, ⟨x1, rfl, w1⟩, h1⟩ := h0.inv
    obtain ⟨v2, r2, rfl, ⟨x2, rfl, w2⟩, h2⟩ := h1.inv
    obtain ⟨v3, r3, rfl, ⟨x3, rfl, w3⟩, h3⟩ := h2.inv
    obtain ⟨v4, r4, rfl, ⟨x4, rfl, w4⟩, h4⟩ := h3.inv
    obtain rfl := h4.inv0
    simp only [g]
    rw [e0]
    exact ⟨rfl, wf_i64 w0, w1, wf_i64 w2, wf_i64 w3, wf_i64 w4⟩
  refine ⟨o, n, cap, g, rfl, ⟨fun i hi => ?_, by omega, fun i hi => (key i hi).2⟩⟩
  obtain ⟨ad, h1, h2, h3, h4⟩ := hsl i hi
  refine ⟨ad, h1, h2, rfl, fun j u hu => h4 j u ?_⟩
  rw [(key i hi).1]; exact hu

theorem AtomSound_lifted (os : Os) (started : os.Started) (H : Type) (enc : TypeId × Value → H) :
    ReturnsInHanded {} Try.checked os 3 .any (Rows.atomSoundSpec.pre6 enc Try.prog Try.f3 Rows.atomSoundRow.domain false) (Rows.atomSoundSpec.post enc Try.prog Try.f3 false true false false) := by
  refine returnsInHanded_of_change (C := Try.checked) own started (by kernel_rfl) Try.func3
    (ChangeSpec.witness6 (enc := enc) (C := Try.checked) false ⟨#[], #[.slice none 0 0], []⟩ 8 (by kernel_rfl) (by kernel_rfl) (by kernel_rfl) (by kernel_rfl)) ?_
  intro W base args ds gs before hval0 hW hcnd _
  have hval : ∀ (j : Nat) t v, Try.f3.params[j]? = some t → args[j]? = some v → Value.okWide Try.prog W .any base t v := hval0
  have hW' := hW
  obtain ⟨p, q, hA0, hV, rfl, hfz, hnd⟩ := hW
  have hA : DataW.TrodAll enc Try.prog W 0 (fun _ => true) true Try.f3.params.toList args.toList ds p := hA0
  rw [Try.params3] at hA hval
  refine Calls.mono (R := fun e W' => e = .returned (.bool true) ∧ Frm [] W W') ?_ (fun e W' ⟨he, hf⟩ => ⟨_, he, law_post (tb := 4) (by kernel_rfl) (by kernel_rfl) (by kernel_rfl) Try.underlying4 rfl (fun ds h => ?_) hW' hf⟩)
  · obtain ⟨v0, d0, rfl, rfl, h0⟩ := trodAll_one hA
    obtain ⟨o, n, cap, f, rfl, hacts⟩ := open_acts (hval 0 _ v0 rfl rfl) h0
    exact AtomSound_ok hacts cap
  · match ds, h with
    | [_], _ => rfl
theorem AtomSound_holds : Rows.AtomSoundSaid :=
  OpenClaim.holds_of_wide 3 Try.f3 rfl rfl rfl rfl rfl rfl rfl ⟨rfl, rfl, rfl, rfl, rfl⟩ rfl rfl rfl rfl rfl (by kernel_rfl) Try.func3 (by kernel_rfl)
    (of_decide_eq_true (by kernel_rfl)) (by unfold Func.isWrapper; rw [if_neg (by decide +kernel)]; exact ⟨rfl, rfl⟩)
    (fun os started H enc _ => AtomSound_lifted os started H enc)
#print axioms AtomSound_holds
end Go.Proofs.Yteapjjkgbnnipaa
