/- Package atom: maps.Clone of holds. -/
import Derived.Test.YteapjjkgbnnipaaAtD
import Derived.Test.YteapjjkgbnnipaaRange
import Derived.Shelf.SlMaps.Clone
set_option maxRecDepth 100000
set_option linter.unusedSimpArgs false
set_option linter.unusedVariables false
set_option maxHeartbeats 4000000
namespace Go.Proofs.Yteapjjkgbnnipaa
open Go.RowKit

section
variable {c : Ctx} {Q : SExit → Fr → Mem → List Nat → World → Prop} {ids : List Nat} {w : World} {fr : Fr} {mem : Mem} {todo : List Task}
theorem n_pure {o : Oper} (r : SV) {v : Value} (hd : dstOk c o.dst = true) (hv : den ids r = some v)
    (h : ∀ ids' w (ρ : Operand → Value), ids <+: ids' → Inv c w ids' mem → (∀ x r, ev fr x = some r → den ids' r = some (ρ x)) → (execOp ρ o).run c.P w = .ok (.value v) w) (hk : satS c Q ⟨putF o.dst r fr, mem, todo⟩ ids) : satN c Q (.op o ⟨fr, mem, todo⟩) ids :=
  n_run hd fun ids' w ρ hp hI hρ => ⟨v, w, r, mem, ids', h ids' w ρ hp hI hρ, den_mono hp _ _ hv, List.prefix_refl _, hI, satS_mono hp hk⟩
end
theorem undMap : Try.prog.underlying 60 = some (.map 3 3) := by kernel_rfl
theorem Clone_ok {w : World} {b : Nat} {m : List (Int × Int)} (h : MapOf intE intV w b m) : Calls Try.prog 25 #[.map (some b)] w fun e w' => ∃ b' : Nat, e = .returned (.map (some b')) ∧ True ∧ Fresh w w' (holdsRes b' m) := by
  have hI := Inv.nil (P := Try.prog) (N := 9) (S := []) (os := []) w
  refine calls_sm (cx 9 [] [] w) (vals := [.raw (.map (some b))]) mixed Try.func25 rfl rfl rfl hI rfl (st rfl ?_); conv => arg 3; whnf
  (repeat (first | (refine n_must rfl ?_; (refine st rfl ?_; conv => arg 3; whnf)) | (refine n_chk (drawF_ok (by decide +kernel)) ?_; (refine st rfl ?_; conv => arg 3; whnf)) | (refine n_same rfl ?_; (refine st rfl ?_; conv => arg 3; whnf)) | (refine n_brT ?_ ?_; (focus (simp <;> fail)); (refine st rfl ?_; conv => arg 3; whnf)) | (refine n_brF ?_ ?_; (focus (simp <;> fail)); (refine st rfl ?_; conv => arg 3; whnf))))
  refine n_pure (.lit false) rfl rfl (fun ids' w1 ρ hp hI1 hρ => ?_) ?_
  · have h3 : .map (some b) = ρ (.tmp 3) := Option.some.inj (hρ (.tmp 3) _ rfl)
    have h4 : .map none = ρ (.const (.map none)) := Option.some.inj (hρ (.const (.map none)) _ rfl)
    have hr := run_eql_map_nil_sl (P := Try.prog) w1 60 _ _ (some b) undMap
    have hg : (eqGuard .eql 60 (.tmp 3) (.const (.map none)) (.map (some b)) (.map none)).run Try.prog w1 = .ok () w1 := by simp [eqGuard]
    simp only [execOp, ← h3, ← h4, Sem.run_bind, hg, Result.andThen_ok, hr, Sem.run_pure]
    rfl
  (refine st rfl ?_; conv => arg 3; whnf)
  (repeat (first | (refine n_must rfl ?_; (refine st rfl ?_; conv => arg 3; whnf)) | (refine n_chk (drawF_ok (by decide +kernel)) ?_; (refine st rfl ?_; conv => arg 3; whnf)) | (refine n_same rfl ?_; (refine st rfl ?_; conv => arg 3; whnf)) | (refine n_brT ?_ ?_; (focus (simp <;> fail)); (refine st rfl ?_; conv => arg 3; whnf)) | (refine n_brF ?_ ?_; (focus (simp <;> fail)); (refine st rfl ?_; conv => arg 3; whnf))))
  refine n_run rfl fun ids' w1 ρ hp hI1 hρ => ?_
  obtain rfl := ext0 hp (by rw [hI1.len]; rfl)
  have h6 : .iface 60 (.map (some b)) = ρ (.tmp 6) := Option.some.inj (hρ (.tmp 6) _ rfl)
  have h1 := h.keep (w' := w1) (hI1.frm.block b h.lt (by simp))
  obtain ⟨⟨es, clock, g1, g2, g3⟩, g4⟩ := h1
  have hcl := run_maps_clone_sl (P := Try.prog) w1 60 g1
  have hext := run_callFunc_extern (P := Try.prog) (f := 41) (e := Extern.MapsClone.clone) Try.func41 (by kernel_rfl) (by kernel_rfl) (by kernel_rfl) (by kernel_rfl) #[.iface 60 (.map (some b))] w1
  rw [hcl] at hext
  have hnew : MapOf intE intV (w1.alloc (.map es clock)) w1.heap.size m := ⟨⟨es, clock, (MapKept.heap_alloc w1 _).1, g2, g3⟩, g4⟩
  refine ⟨.iface 60 (.map (some w1.heap.size)), w1.alloc (.map es clock), .iface 60 (.raw (.map (some w1.heap.size))), [⟨60, [.res (holdsRes w1.heap.size m)], true⟩], _, ?_, rfl, List.prefix_append _ [0], hI1.addR ((Frm.refl [] w1).alloc _) (holdsRes w1.heap.size m) 60 true hnew (by simp [holdsRes]) (by simp [holdsRes]), ?_⟩
  · have hf : .func (.func 41) #[] #[] = ρ (.func 41) := Option.some.inj (hρ (.func 41) _ rfl)
    simp [execOp, resolve, ← h6, ← hf, Deferred.ofValue, invoke, hext, Result.andThen]
  have hbn : w.heap.size ≤ w1.heap.size := hI1.frm.size
  generalize w1.heap.size = b' at hbn
  (refine st rfl ?_; conv => arg 3; whnf)
  (repeat (first | (refine n_must rfl ?_; (refine st rfl ?_; conv => arg 3; whnf)) | (refine n_chk (drawF_ok (by decide +kernel)) ?_; (refine st rfl ?_; conv => arg 3; whnf)) | (refine n_same rfl ?_; (refine st rfl ?_; conv => arg 3; whnf)) | (refine n_brT ?_ ?_; (focus (simp <;> fail)); (refine st rfl ?_; conv => arg 3; whnf)) | (refine n_brF ?_ ?_; (focus (simp <;> fail)); (refine st rfl ?_; conv => arg 3; whnf))))
  refine n_pure (.raw (.map (some b'))) rfl rfl (fun ids' w2 ρ2 hp2 hI2 hρ2 => ?_) ?_
  · have h7 : .iface 60 (.map (some b')) = ρ2 (.tmp 7) := Option.some.inj (hρ2 (.tmp 7) _ rfl)
    have := run_typeAssert_map_sl (P := Try.prog) w2 60 20 _ _ (.map (some b')) undMap
    simp only [execOp, ← h7, Sem.run_bind, this, Result.andThen_ok, Sem.run_pure]
  (refine st rfl ?_; conv => arg 3; whnf)
  (repeat (first | (refine n_must rfl ?_; (refine st rfl ?_; conv => arg 3; whnf)) | (refine n_chk (drawF_ok (by decide +kernel)) ?_; (refine st rfl ?_; conv => arg 3; whnf)) | (refine n_same rfl ?_; (refine st rfl ?_; conv => arg 3; whnf)) | (refine n_brT ?_ ?_; (focus (simp <;> fail)); (refine st rfl ?_; conv => arg 3; whnf)) | (refine n_brF ?_ ?_; (focus (simp <;> fail)); (refine st rfl ?_; conv => arg 3; whnf))))
  exact n_ret0 rfl rfl fun ids' w' hp hI' => ⟨b', rfl, trivial, hI'.frm, hI'.res 0 rfl rfl, by simp [holdsRes]; exact hbn, hI'.resLt 0 rfl rfl⟩
end Go.Proofs.Yteapjjkgbnnipaa
