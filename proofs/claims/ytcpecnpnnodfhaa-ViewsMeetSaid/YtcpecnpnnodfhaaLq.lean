/- Loops that are left at several places and go on at one. -/
import Derived.Test.YtcpecnpnnodfhaaBnY
set_option linter.unusedVariables false
set_option linter.unusedSimpArgs false
namespace Go.Proofs.Ytcpecnpnnodfhaa
open Go.RowKit

section
variable {c : Ctx} {Q : SExit → Fr → Mem → List Nat → World → Prop} {ids : List Nat} {w : World} {fr : Fr} {mem : Mem} {todo : List Task}

/-- The end of a round; X: how the loop is left. -/
def roundJ (c : Ctx) (Q : SExit → Fr → Mem → List Nat → World → Prop) (todo : List Task) (k : Nat) (N X : Fr → Mem → List Nat → World → Prop) : SExit → Fr → Mem → List Nat → World → Prop := fun x fr' mem' ids' w' =>
  match x with
  | .normal => N fr' mem' ids' w'
  | .exit i => if i = k then X fr' mem' ids' w' else match popTo i todo with | some r => satS c Q ⟨fr', mem', r⟩ ids' | none => False
  | .ret => satN c Q (.fin .ret fr' mem') ids'

theorem n_loopJ {σ : Type} (F : σ → Fr) (M : σ → Mem) (J : σ → Prop) (E : σ → Prop) (μ : σ → Nat) (s0 : σ) {body : Code} {k : Nat} {r : List Task}
    (hm : c.P.follows .mixedOrders = true) (hr : popTo k todo = some r) (h0 : J s0) (hl : ∀ s, J s → ids.length = (M s).length) (hM : ∀ w, Inv c w ids mem → Inv c w ids (M s0)) (hlm : ids.length = mem.length) (hF : FrSub (F s0) fr)
    (hd : ∀ s, J s → FrDen ids (F s) ∧ MemDen ids (M s))
    (round : ∀ s, J s → satS c (roundJ c Q todo k (fun fr' mem' ids2 w' => ∃ s', J s' ∧ μ s' < μ s ∧ FrSub (F s') fr' ∧ ∃ junk, Inv c w' ids2 (M s' ++ junk)) (fun fr' mem' ids2 w' => ∃ s', (J s' ∧ E s') ∧ FrSub (F s') fr' ∧ ∃ junk, Inv c w' ids2 (M s' ++ junk))) ⟨F s, M s, [.code body]⟩ ids)
    (done : ∀ s, J s → E s → satS c Q ⟨F s, M s, r⟩ ids) : satN c Q (.loop body ⟨fr, mem, todo⟩) ids := by
  refine satN_iff.2 fun ids' w a hp hI hFr => ?_
  obtain rfl := ext0 hp (by rw [hI.len, hlm])
  have hIM := hM w hI
  refine wp_loop_ghost (fun n a w => ∃ s, μ s = n ∧ J s ∧ FrOk c ids' (F s) a ∧ Inv c w ids' (M s)) (μ s0) ⟨s0, rfl, h0, hFr.sub (List.prefix_refl _) hF (hd s0 h0).1, hIM⟩ ?_
  rintro n a w ⟨s, rfl, hJ, hFs, hIs⟩
  have h := satS_iff.1 (round s hJ)
  unfold treeOf at h
  rw [cont_code] at h
  refine exec_ok hm (ids0 := ids') body ?_ (List.prefix_refl _) (List.prefix_refl _) hIs hFs h
  intro x fr' mem' idsk ids2 a' w' h0' hs hp2 hF2 hI2
  simp only [cont, sat] at hs
  have hq := hs ids2 w' hp2 hI2
  have hp3 := h0'.trans hp2
  cases x with
  | normal =>
    obtain ⟨s', hJ', hμ, hsub, junk, hI3⟩ := hq
    exact ⟨μ s', hμ, s', rfl, hJ', hF2.sub hp3 hsub (hd s' hJ').1, hI3.forget hp3 (hl s' hJ') (hd s' hJ').2⟩
  | exit i =>
    simp only [roundJ] at hq
    by_cases hik : i = k
    · subst hik
      rw [if_pos rfl] at hq
      obtain ⟨s', ⟨hJ', hE'⟩, hsub, junk, hI3⟩ := hq
      refine ⟨.exit i, F s', M s', ids', rfl, List.prefix_refl _, hF2.sub hp3 hsub (hd s' hJ').1, hI3.forget hp3 (hl s' hJ') (hd s' hJ').2, ?_⟩
      rw [cont_pop]
      simp only [hr]
      exact satS_iff.1 (done s' hJ' hE')
    · rw [if_neg hik] at hq
      refine ⟨.exit i, fr', mem', ids2, rfl, hp3, hF2, hI2, ?_⟩
      rw [cont_pop]
      split at hq
      · rename_i r' hr'
        simp only [hr']
        exact satS_iff.1 hq
      · exact hq.elim
  | ret =>
    refine ⟨.ret, fr', mem', ids2, rfl, hp3, hF2, hI2, ?_⟩
    simp only [roundJ] at hq
    rw [cont_ret]
    exact satN_iff.1 hq
section
variable {k : Nat} {N X : Fr → Mem → List Nat → World → Prop}
/-- The loop is left. -/
theorem n_exitJ (h : ∀ ids' w', ids <+: ids' → Inv c w' ids' mem → X fr mem ids' w') : satN c (roundJ c Q todo k N X) (.fin (.exit k) fr mem) ids :=
  n_fin fun ids' w' hp hI => by
    simp only [roundJ, if_true]
    exact h ids' w' hp hI
/-- Another round. -/
theorem n_againJ (h : ∀ ids' w', ids <+: ids' → Inv c w' ids' mem → N fr mem ids' w') : satN c (roundJ c Q todo k N X) (.fin .normal fr mem) ids := n_fin fun ids' w' hp hI => h ids' w' hp hI
/-- The function is left. -/
theorem n_leaveJ (h : satN c Q (.fin .ret fr mem) ids) : satN c (roundJ c Q todo k N X) (.fin .ret fr mem) ids := n_fin fun ids' w' hp _ => satN_iff.2 fun ids2 w2 hp2 hI2 => satN_iff.1 h ids2 w2 (hp.trans hp2) hI2
end
end
end Go.Proofs.Ytcpecnpnnodfhaa
