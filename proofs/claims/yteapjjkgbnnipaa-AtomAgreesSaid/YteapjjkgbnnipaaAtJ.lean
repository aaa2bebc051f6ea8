/- Chapter 16's law: alive. -/
import Derived.Test.YteapjjkgbnnipaaAtI
set_option maxRecDepth 100000
set_option linter.unusedSimpArgs false
set_option linter.unusedVariables false
set_option maxHeartbeats 4000000
namespace Go.Proofs.Yteapjjkgbnnipaa
open Go.RowKit

abbrev kK : ByteArray := { data := #[107] }
theorem named_k : namedB kK = true := by
  simp only [namedB, firstBad, ByteArray.toList_eq]
  decide
theorem kK_size : kK.size ≤ maxLen := by decide

theorem alive_ok (w : World) : Calls Try.prog 10 #[] w fun e w' => e = .returned (.bool true) ∧ Frm [] w w' := by
  have hI := Inv.nil (P := Try.prog) (N := 81) (S := []) (os := []) w
  refine calls_sm (cx 81 [] [] w) (vals := []) mixed Try.func10 rfl rfl rfl hI rfl (st rfl ?_); conv => arg 3; whnf
  (repeat (first | (refine n_must rfl ?_; (refine st rfl ?_; conv => arg 3; whnf)) | (refine n_chk (drawF_ok (by decide +kernel)) ?_; (refine st rfl ?_; conv => arg 3; whnf)) | (refine n_same rfl ?_; (refine st rfl ?_; conv => arg 3; whnf)) | (refine n_brT ?_ ?_; (focus (simp <;> fail)); (refine st rfl ?_; conv => arg 3; whnf)) | (refine n_brF ?_ ?_; (focus (simp <;> fail)); (refine st rfl ?_; conv => arg 3; whnf))))
  refine n_callN (fun y : Nat × Nat => mapRes y.1 y.2 []) 59 (fun y => .raw (pV y.1)) (fun y => pV y.1) (fun _ => True) rfl rfl rfl (fun _ => rfl) (fun w1 hI1 => New_ok w1) ?_
  intro y _ hnew
  (refine st rfl ?_; conv => arg 3; whnf)
  (repeat (first | (refine n_must rfl ?_; (refine st rfl ?_; conv => arg 3; whnf)) | (refine n_chk (drawF_ok (by decide +kernel)) ?_; (refine st rfl ?_; conv => arg 3; whnf)) | (refine n_same rfl ?_; (refine st rfl ?_; conv => arg 3; whnf)) | (refine n_must ?_ ?_; (focus (first | (simp; done) | (simp; omega))); (refine st rfl ?_; conv => arg 3; whnf)) | (refine n_brT ?_ ?_; (focus (first | (simp; done) | (simp; omega))); (refine st rfl ?_; conv => arg 3; whnf)) | (refine n_brF ?_ ?_; (focus (first | (simp; done) | (simp; omega))); (refine st rfl ?_; conv => arg 3; whnf))))
  have e1 : ∀ hn, doF [] hn 1 kK 10 4 0 = ([(kK, ⟨10, 4, 0, hn, []⟩)], 0, 0) := fun hn => by simp [doF, rightB, amountB, named_k, mget, mput]
  refine n_callR (Y := Nat) 0 (fun hn => mapRes y.1 y.2 [(kK, ⟨10, 4, 0, hn, []⟩)]) (fun _ => ansS 0 0) (fun _ => ansV 0 0) (fun _ => True) rfl rfl (fun _ => rfl) rfl rfl rfl (fun _ w1 hp1 hI1 hR => by have h := Do_ok hR (by simp) 1 kK 10 4 0 kK_size (by decide) (by decide); simp only [e1] at h; exact h) ?_
  intro h0 _
  (refine st rfl ?_; conv => arg 3; whnf)
  (repeat (first | (refine n_must rfl ?_; (refine st rfl ?_; conv => arg 3; whnf)) | (refine n_chk (drawF_ok (by decide +kernel)) ?_; (refine st rfl ?_; conv => arg 3; whnf)) | (refine n_same rfl ?_; (refine st rfl ?_; conv => arg 3; whnf)) | (refine n_must ?_ ?_; (focus (first | (simp; done) | (simp; omega))); (refine st rfl ?_; conv => arg 3; whnf)) | (refine n_brT ?_ ?_; (focus (first | (simp; done) | (simp; omega))); (refine st rfl ?_; conv => arg 3; whnf)) | (refine n_brF ?_ ?_; (focus (first | (simp; done) | (simp; omega))); (refine st rfl ?_; conv => arg 3; whnf))))
  have ok1 : AllOk [(kK, ⟨10, 4, 0, h0, []⟩)] := by
    intro x hx
    simp at hx; subst hx
    exact ⟨by simp, by simp, by simp, by simp, by simp, by simp [Ctr.sum]⟩
  have e2 : ∀ hn, doF [(kK, ⟨10, 4, 0, h0, []⟩)] hn 2 kK 6 0 0 = ([(kK, ⟨10, 10, 0, h0, []⟩)], 0, 0) := fun hn => by simp [doF, rightB, amountB, named_k, mget, mput, actF, Ctr.inc]
  refine n_callR (Y := Nat) 0 (fun hn => mapRes y.1 y.2 [(kK, ⟨10, 10, 0, h0, []⟩)]) (fun _ => ansS 0 0) (fun _ => ansV 0 0) (fun _ => True) rfl rfl (fun _ => rfl) rfl rfl rfl (fun _ w1 hp1 hI1 hR => by have h := Do_ok hR ok1 2 kK 6 0 0 kK_size (by decide) (by decide); simp only [e2] at h; exact h) ?_
  intro h1 _
  (refine st rfl ?_; conv => arg 3; whnf)
  (repeat (first | (refine n_must rfl ?_; (refine st rfl ?_; conv => arg 3; whnf)) | (refine n_chk (drawF_ok (by decide +kernel)) ?_; (refine st rfl ?_; conv => arg 3; whnf)) | (refine n_same rfl ?_; (refine st rfl ?_; conv => arg 3; whnf)) | (refine n_must ?_ ?_; (focus (first | (simp; done) | (simp; omega))); (refine st rfl ?_; conv => arg 3; whnf)) | (refine n_brT ?_ ?_; (focus (first | (simp; done) | (simp; omega))); (refine st rfl ?_; conv => arg 3; whnf)) | (refine n_brF ?_ ?_; (focus (first | (simp; done) | (simp; omega))); (refine st rfl ?_; conv => arg 3; whnf))))
  have ok2 : AllOk [(kK, ⟨10, 10, 0, h0, []⟩)] := by
    intro x hx
    simp at hx; subst hx
    exact ⟨by simp, by simp, by simp, by simp, by simp, by simp [Ctr.sum]⟩
  have e3 : ∀ hn, doF [(kK, ⟨10, 10, 0, h0, []⟩)] hn 4 kK 3 5 16 = ([(kK, ⟨10, 7, 3, h0, [(16, 3)]⟩)], 16, 0) := fun hn => by simp [doF, rightB, amountB, named_k, mget, mput, actF, Ctr.hold]
  refine n_callR (Y := Nat) 0 (fun hn => mapRes y.1 y.2 [(kK, ⟨10, 7, 3, h0, [(16, 3)]⟩)]) (fun _ => ansS 16 0) (fun _ => ansV 16 0) (fun _ => True) rfl rfl (fun _ => rfl) rfl rfl rfl (fun _ w1 hp1 hI1 hR => by have h := Do_ok hR ok2 4 kK 3 5 16 kK_size (by decide) (by decide); simp only [e3] at h; exact h) ?_
  intro h2 _
  (refine st rfl ?_; conv => arg 3; whnf)
  (repeat (first | (refine n_must rfl ?_; (refine st rfl ?_; conv => arg 3; whnf)) | (refine n_chk (drawF_ok (by decide +kernel)) ?_; (refine st rfl ?_; conv => arg 3; whnf)) | (refine n_same rfl ?_; (refine st rfl ?_; conv => arg 3; whnf)) | (refine n_must ?_ ?_; (focus (first | (simp; done) | (simp; omega))); (refine st rfl ?_; conv => arg 3; whnf)) | (refine n_brT ?_ ?_; (focus (first | (simp; done) | (simp; omega))); (refine st rfl ?_; conv => arg 3; whnf)) | (refine n_brF ?_ ?_; (focus (first | (simp; done) | (simp; omega))); (refine st rfl ?_; conv => arg 3; whnf))))
  have ok3 : AllOk [(kK, ⟨10, 7, 3, h0, [(16, 3)]⟩)] := by
    intro x hx
    simp at hx; subst hx
    exact ⟨by simp, by simp, by simp, by simp, by simp, by simp [Ctr.sum]⟩
  have e4 : ∀ hn, doF [(kK, ⟨10, 7, 3, h0, [(16, 3)]⟩)] hn 2 kK 1 0 0 = ([(kK, ⟨10, 7, 3, h0, [(16, 3)]⟩)], 0, 60) := fun hn => by simp [doF, rightB, amountB, named_k, mget, mput, actF, Ctr.inc]
  refine n_callR (Y := Nat) 0 (fun hn => mapRes y.1 y.2 [(kK, ⟨10, 7, 3, h0, [(16, 3)]⟩)]) (fun _ => ansS 0 60) (fun _ => ansV 0 60) (fun _ => True) rfl rfl (fun _ => rfl) rfl rfl rfl (fun _ w1 hp1 hI1 hR => by have h := Do_ok hR ok3 2 kK 1 0 0 kK_size (by decide) (by decide); simp only [e4] at h; exact h) ?_
  intro h3 _
  (refine st rfl ?_; conv => arg 3; whnf)
  (repeat (first | (refine n_must rfl ?_; (refine st rfl ?_; conv => arg 3; whnf)) | (refine n_chk (drawF_ok (by decide +kernel)) ?_; (refine st rfl ?_; conv => arg 3; whnf)) | (refine n_same rfl ?_; (refine st rfl ?_; conv => arg 3; whnf)) | (refine n_must ?_ ?_; (focus (first | (simp; done) | (simp; omega))); (refine st rfl ?_; conv => arg 3; whnf)) | (refine n_brT ?_ ?_; (focus (first | (simp; done) | (simp; omega))); (refine st rfl ?_; conv => arg 3; whnf)) | (refine n_brF ?_ ?_; (focus (first | (simp; done) | (simp; omega))); (refine st rfl ?_; conv => arg 3; whnf))))
  have e5 : peekV [(kK, ⟨10, 7, 3, h0, [(16, 3)]⟩)] kK = .tuple #[.int .i64 7, .int .i64 3, .int .i64 10, .bool true] := by simp [peekV, mget]
  refine n_sameP (.tup [.int .i64 7, .int .i64 3, .int .i64 10, .bool true]) rfl rfl rfl (fun _ w1 hp1 hI1 => e5 ▸ Peek_ok (hI1.res 0 rfl rfl) kK kK_size) ?_; (refine st rfl ?_; conv => arg 3; whnf)
  (repeat (first | (refine n_must rfl ?_; (refine st rfl ?_; conv => arg 3; whnf)) | (refine n_chk (drawF_ok (by decide +kernel)) ?_; (refine st rfl ?_; conv => arg 3; whnf)) | (refine n_same rfl ?_; (refine st rfl ?_; conv => arg 3; whnf)) | (refine n_must ?_ ?_; (focus (first | (simp; done) | (simp; omega))); (refine st rfl ?_; conv => arg 3; whnf)) | (refine n_brT ?_ ?_; (focus (first | (simp; done) | (simp; omega))); (refine st rfl ?_; conv => arg 3; whnf)) | (refine n_brF ?_ ?_; (focus (first | (simp; done) | (simp; omega))); (refine st rfl ?_; conv => arg 3; whnf))))
  exact n_ret0 rfl rfl fun ids' w' hp hI' => ⟨rfl, hI'.frm⟩
end Go.Proofs.Yteapjjkgbnnipaa
