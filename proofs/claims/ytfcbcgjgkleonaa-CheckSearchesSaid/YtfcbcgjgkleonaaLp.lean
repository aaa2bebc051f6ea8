/- Loops whose rounds may tell memory anew at their end; parts that change places. -/
import Derived.Test.YtfcbcgjgkleonaaMk
import Derived.Test.YtfcbcgjgkleonaaMap2
set_option linter.unusedVariables false
set_option linter.unusedSimpArgs false
namespace Go.Proofs.Ytfcbcgjgkleonaa
open Go.RowKit

section
variable {c : Ctx} {Q : SExit → Fr → Mem → List Nat → World → Prop} {ids : List Nat} {w : World} {fr : Fr} {mem : Mem} {todo : List Task}

/-- The end of a round. -/
def roundM (c : Ctx) (Q : SExit → Fr → Mem → List Nat → World → Prop) (todo : List Task) (N : Fr → Mem → List Nat → World → Prop) : SExit → Fr → Mem → List Nat → World → Prop := fun x fr' mem' ids' w' =>
  match x with
  | .normal => N fr' mem' ids' w'
  | .exit i => match popTo i todo with | some r => satS c Q ⟨fr', mem', r⟩ ids' | none => False
  | .ret => satN c Q (.fin .ret fr' mem') ids'

theorem n_loopM {σ : Type} (F : σ → Fr) (M : σ → Mem) (J : σ → Prop) (μ : σ → Nat) (s0 : σ) {body : Code}
    (hm : c.P.follows .mixedOrders = true) (h0 : J s0) (hl : ∀ s, J s → ids.length = (M s).length) (hM : ∀ w, Inv c w ids mem → Inv c w ids (M s0)) (hlm : ids.length = mem.length) (hF : FrSub (F s0) fr)
    (hd : ∀ s, J s → FrDen ids (F s) ∧ MemDen ids (M s))
    (round : ∀ s, J s → satS c (roundM c Q todo fun fr' mem' ids2 w' => ∃ s', J s' ∧ μ s' < μ s ∧ FrSub (F s') fr' ∧ ∃ junk, Inv c w' ids2 (M s' ++ junk)) ⟨F s, M s, [.code body]⟩ ids) : satN c Q (.loop body ⟨fr, mem, todo⟩) ids := by
  refine satN_iff.2 fun ids' w a hp hI hFr => ?_
  obtain rfl := ext0 hp (by rw [hI.len, hlm])
  have hIM := hM w hI
  refine wp_loop_ghost (fun n a w => ∃ s, μ s = n ∧ J s ∧ FrOk c ids' (F s) a ∧ Inv c w ids' (M s)) (μ s0) ⟨s0, rfl, h0, hFr.sub (List.prefix_refl _) hF (hd s0 h0).1, hIM⟩ ?_
  rintro n a w ⟨s, rfl, hJ, hFs, hIs⟩
  have h := satS_iff.1 (round s hJ)
  unfold treeOf at h
  rw [cont_code] at h
  refine exec_ok hm (ids0 := ids') body ?_ (List.prefix_refl _) (List.prefix_refl _) hIs hFs h
  intro x fr' mem' idsk ids2 a' w' h0' hs hp2 hF2 hI2
  simp only [cont, sat] at hs
  have hq := hs ids2 w' hp2 hI2
  have hp3 := h0'.trans hp2
  cases x with
  | normal =>
    obtain ⟨s', hJ', hμ, hsub, junk, hI3⟩ := hq
    exact ⟨μ s', hμ, s', rfl, hJ', hF2.sub hp3 hsub (hd s' hJ').1, hI3.forget hp3 (hl s' hJ') (hd s' hJ').2⟩
  | exit i =>
    refine ⟨.exit i, fr', mem', ids2, rfl, hp3, hF2, hI2, ?_⟩
    simp only [roundM] at hq
    rw [cont_pop]
    split at hq
    · rename_i r hr
      simp only [hr]
      exact satS_iff.1 hq
    · exact hq.elim
  | ret =>
    refine ⟨.ret, fr', mem', ids2, rfl, hp3, hF2, hI2, ?_⟩
    simp only [roundM] at hq
    rw [cont_ret]
    exact satN_iff.1 hq
section
variable {N : Fr → Mem → List Nat → World → Prop}
/-- The loop is left. -/
theorem n_exitM {i : Nat} {r : List Task} (hr : popTo i todo = some r) (h : satS c Q ⟨fr, mem, r⟩ ids) : satN c (roundM c Q todo N) (.fin (.exit i) fr mem) ids :=
  n_fin fun ids' w' hp _ => by
    simp only [roundM, hr]
    exact satS_mono hp h
/-- Another round. -/
theorem n_againM (h : ∀ ids' w', ids <+: ids' → Inv c w' ids' mem → N fr mem ids' w') : satN c (roundM c Q todo N) (.fin .normal fr mem) ids := n_fin fun ids' w' hp hI => h ids' w' hp hI
/-- The function is left. -/
theorem n_leaveM (h : satN c Q (.fin .ret fr mem) ids) : satN c (roundM c Q todo N) (.fin .ret fr mem) ids := n_fin fun ids' w' hp _ => satN_iff.2 fun ids2 w2 hp2 hI2 => satN_iff.1 h ids2 w2 (hp.trans hp2) hI2
end

/-- Part j goes to the place i (what was there is forgotten). -/
theorem Inv.moveR (hI : Inv c w ids mem) (i j : Nat) {b b2 : SBlk} {ρ σ : Res} (hij : i ≠ j) (hb : nth mem i = some b) (hr : resOf b = some ρ) (hb2 : nth mem j = some b2) (hr2 : resOf b2 = some σ) (hrw : b.rw = true) (hrw2 : b2.rw = true) :
    Inv c w ids (setCells (setCells mem i [.res σ]) j [.res Res.none]) := by
  have h := hI.absorb i j hij hb hr hb2 hr2 hrw hrw2
  have hne : nth (setCells mem i [.res (ρ.both σ)]) j = some b2 := by rw [nth_setCells_ne hij]; exact hb2
  have hi1 : nth (setCells (setCells mem i [.res (ρ.both σ)]) j [.res Res.none]) i = some { b with cells := [.res (ρ.both σ)] } := by rw [nth_setCells_ne (fun e => hij e.symm), nth_setCells hb]
  have h2 := h.updR (w' := w) (ρ' := σ) i hi1 (ρ := ρ.both σ) rfl hrw ((Frm.refl [] w).mono (by simp)) (h.res i hi1 rfl).2.1 (fun x hx => .inl (by simp [Res.both, hx])) (hI.resLt j hb2 hr2)
  have e : setCells (setCells (setCells mem i [.res (ρ.both σ)]) j [.res Res.none]) i [.res σ] = setCells (setCells mem i [.res σ]) j [.res Res.none] := by
    rw [setCells_eq hi1, setCells_eq hne, setCells_eq hb]
    rw [setCells_eq (mem := setCells mem i [.res σ]) (i := j) (b := b2) (by rw [nth_setCells_ne hij]; exact hb2), setCells_eq hb]
    have comm : ∀ (l : List SBlk) (i j : Nat) (x y z : SBlk), i ≠ j → setNth (setNth (setNth l i x) j y) i z = setNth (setNth l i z) j y := by
      intro l
      induction l with
      | nil => intros; rfl
      | cons a l ih =>
        intro i j x y z hij
        cases i with
        | zero => cases j with
          | zero => exact absurd rfl hij
          | succ j => rfl
        | succ i => cases j with
          | zero =>
            simp only [setNth]
            congr 1
            have : ∀ (l : List SBlk) (i : Nat) (x z : SBlk), setNth (setNth l i x) i z = setNth l i z := by
              intro l
              induction l with
              | nil => intros; rfl
              | cons a l ih => intro i x z; cases i with | zero => rfl | succ i => simp only [setNth, ih]
            exact this l i x z
          | succ j => simp only [setNth, ih i j x y z (by omega)]
    exact comm _ _ _ _ _ _ hij
  rw [← e]
  exact h2
theorem n_call3 {f : FuncId} {args : List SV} {dst : Option Nat} (hl : mem.length = ids.length + 3) (h : ∀ n m k, satN c Q (.call f args dst ⟨fr, mem, todo⟩) (ids ++ [n, m, k])) : satN c Q (.call f args dst ⟨fr, mem, todo⟩) ids :=
  n_callE fun ids' hp hl' => by
    obtain ⟨n, m, k, rfl⟩ := ext3 hp (by rw [hl', hl])
    exact h n m k
theorem n_call4 {f : FuncId} {args : List SV} {dst : Option Nat} (hl : mem.length = ids.length + 4) (h : ∀ n m k j, satN c Q (.call f args dst ⟨fr, mem, todo⟩) (ids ++ [n, m, k, j])) : satN c Q (.call f args dst ⟨fr, mem, todo⟩) ids :=
  n_callE fun ids' hp hl' => by
    obtain ⟨n, m, k, j, rfl⟩ := ext4 hp (by rw [hl', hl])
    exact h n m k j
/-- Memory told otherwise ahead of a loop. -/
theorem n_loopI {body : Code} (mem' : Mem) (hm : ∀ ids' w, ids <+: ids' → Inv c w ids' mem → Inv c w ids' mem') (h : satN c Q (.loop body ⟨fr, mem', todo⟩) ids) : satN c Q (.loop body ⟨fr, mem, todo⟩) ids :=
  satN_iff.2 fun ids' w a hp hI hF => satN_iff.1 h ids' w a hp (hm ids' w hp hI) hF
end
end Go.Proofs.Ytfcbcgjgkleonaa
