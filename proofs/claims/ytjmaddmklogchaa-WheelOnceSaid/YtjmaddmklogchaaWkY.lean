/- Chapter 5's law: what WheelOnce knows of a wheel and its row of dues. -/
import Derived.Test.YtjmaddmklogchaaWkX
set_option maxRecDepth 100000
set_option linter.unusedSimpArgs false
set_option linter.unusedVariables false
set_option maxHeartbeats 8000000
namespace Go.Proofs.Ytjmaddmklogchaa
open Go.RowKit

structure On (N i : Nat) (W : Wh) (D : Nat → Int) (most : Int) : Prop where
  w : W.ok N
  a : W.s.A = absF D i
  last : W.s.last = (i : Int)
  d0 : D 0 = 0
  dn : ∀ j, i < j → D j = 0
  pos : ∀ j, 0 ≤ D j
  le : ∀ j, D j ≤ most
  m0 : 0 ≤ most ∧ most ≤ 400
theorem on_new {n mb : Nat} (hn : 1 ≤ n ∧ n ≤ 64) : On 0 0 (Wh.new n mb) (fun _ => 0) 0 :=
  ⟨new_ok hn, rfl, rfl, rfl, fun _ _ => rfl, fun _ => Int.le_refl _, fun _ => Int.le_refl _, by omega⟩
theorem On.arm {N i : Nat} {W W' : Wh} {D : Nat → Int} {most d : Int} (h : On N i W D most) (hN : N ≤ 200) (hd : d < 90) (hw : W'.ok (N + 1)) (hs : W'.s = W.s.arm d ((100 + i : Nat) : Int) (i : Int)) :
    On (N + 1) (i + 1) W' (updD D (i + 1) (W.s.now + max d 1)) (max most (W.s.now + max d 1)) := by
  have hnow := h.w.s.now
  have hde : delayF d = max d 1 := by unfold delayF; omega
  have hm := h.m0
  refine ⟨hw, ?_, ?_, ?_, fun j hj => ?_, fun j => ?_, fun j => ?_, by omega⟩
  · rw [hs, abs_arm (by omega), ← h.a]
    show W.s.A ++ [⟨W.s.now + delayF d, W.s.last + 1, _, _⟩] = _
    rw [hde, h.last]
    simp
  · rw [hs]
    show W.s.last + 1 = _
    rw [h.last]; simp
  · unfold updD; rw [if_neg (by omega)]; exact h.d0
  · unfold updD; rw [if_neg (by omega)]; exact h.dn j (by omega)
  · unfold updD
    split
    · omega
    · exact h.pos j
  · unfold updD
    split
    · omega
    · have := h.le j; omega
theorem On.has {N i : Nat} {W : Wh} {D : Nat → Int} {most y : Int} (h : On N i W D most) : W.s.has y = true ↔ ∃ j, j < i ∧ D (j + 1) ≠ 0 ∧ ((j + 1 : Nat) : Int) = y := by
  unfold Ws.has
  rw [h.a]
  exact abs_has
theorem On.idle {N i : Nat} {W W' : Wh} {D : Nat → Int} {most y : Int} (h : On N i W D most) (hw : W'.ok N) (hs : W'.s = W.s.cancel y) (hno : W.s.has y = false) : On N i W' D most := by
  refine ⟨hw, ?_, by rw [hs]; exact h.last, h.d0, h.dn, h.pos, h.le, h.m0⟩
  rw [hs]
  show W.s.A.filter _ = _
  rw [h.a]
  refine abs_idle fun hx => ?_
  rw [h.has.2 hx] at hno
  cases hno
theorem On.cancel {N i k : Nat} {W W' : Wh} {D : Nat → Int} {most : Int} (h : On N i W D most) (hk : 1 ≤ k) (hw : W'.ok N) (hs : W'.s = W.s.cancel (k : Int)) : On N i W' (updD D k 0) most := by
  have hm := h.m0
  refine ⟨hw, ?_, by rw [hs]; exact h.last, by unfold updD; rw [if_neg (by omega)]; exact h.d0, fun j hj => ?_, fun j => ?_, fun j => ?_, h.m0⟩
  · rw [hs]
    show W.s.A.filter _ = _
    rw [h.a]
    exact abs_cancel hk
  · unfold updD
    split
    · rfl
    · exact h.dn j hj
  · unfold updD
    split
    · omega
    · exact h.pos j
  · unfold updD
    split
    · omega
    · exact h.le j
theorem On.tick {N i : Nat} {W W' : Wh} {D : Nat → Int} {most : Int} (h : On N i W D most) (hw : W'.ok (N + 1)) (hs : W'.s = W.s.tick) : On (N + 1) i W' (tickD D (W.s.now + 1)) most := by
  have hm := h.m0
  refine ⟨hw, ?_, by rw [hs]; exact h.last, ?_, fun j hj => ?_, fun j => ?_, fun j => ?_, h.m0⟩
  · rw [hs]
    show W.s.A.filter (fun t => decide (t.due ≠ W.s.now + 1)) = _
    rw [h.a]
    exact abs_tick
  · unfold tickD
    rw [h.d0, ite_self]
  · unfold tickD
    rw [h.dn j hj, ite_self]
  · unfold tickD
    split
    · omega
    · exact h.pos j
  · unfold tickD
    split
    · omega
    · exact h.le j
theorem On.empty {N i : Nat} {W : Wh} {D : Nat → Int} {most : Int} (h : On N i W D most) (hd : most ≤ W.s.now) : W.s.A = [] := by
  cases hA : W.s.A with
  | nil => rfl
  | cons t l =>
    have ht : t ∈ W.s.A := by rw [hA]; simp
    have h1 := (h.w.s.due t ht).1
    rw [h.a] at ht
    obtain ⟨j, _, _, rfl⟩ := mem_abs.1 ht
    have := h.le (j + 1)
    dsimp only at h1
    omega
theorem On.mono {N M i : Nat} {W : Wh} {D : Nat → Int} {most : Int} (h : On N i W D most) (hm : N ≤ M) : On M i W D most :=
  ⟨⟨h.w.n, h.w.s.mono hm, h.w.nd, h.w.pl⟩, h.a, h.last, h.d0, h.dn, h.pos, h.le, h.m0⟩
end Go.Proofs.Ytjmaddmklogchaa
