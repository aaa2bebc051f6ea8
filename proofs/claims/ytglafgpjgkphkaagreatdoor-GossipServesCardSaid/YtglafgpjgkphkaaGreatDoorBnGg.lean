/- Loops that are left at several places and go on at one. A call on one of a family; a family grows; facts ahead of a loop. -/
import Derived.Test.YtglafgpjgkphkaaGreatDoorBnY
import Derived.Test.YtglafgpjgkphkaaGreatDoorBnVe
import Derived.Test.YtglafgpjgkphkaaGreatDoorBnU
namespace Go.Proofs.YtglafgpjgkphkaaGreatDoor
section
set_option linter.unusedVariables false
set_option linter.unusedSimpArgs false
open Go.RowKit

section
variable {c : Ctx} {Q : SExit → Fr → Mem → List Nat → World → Prop} {ids : List Nat} {w : World} {fr : Fr} {mem : Mem} {todo : List Task}

/-- The end of a round; X: how the loop is left. -/
def roundJ (c : Ctx) (Q : SExit → Fr → Mem → List Nat → World → Prop) (todo : List Task) (k : Nat) (N X : Fr → Mem → List Nat → World → Prop) : SExit → Fr → Mem → List Nat → World → Prop := fun x fr' mem' ids' w' =>
  match x with
  | .normal => N fr' mem' ids' w'
  | .exit i => if i = k then X fr' mem' ids' w' else match popTo i todo with | some r => satS c Q ⟨fr', mem', r⟩ ids' | none => False
  | .ret => satN c Q (.fin .ret fr' mem') ids'

theorem n_loopJ {σ : Type} (F : σ → Fr) (M : σ → Mem) (J : σ → Prop) (E : σ → Prop) (μ : σ → Nat) (s0 : σ) {body : Code} {k : Nat} {r : List Task}
    (hm : c.P.follows .mixedOrders = true) (hr : popTo k todo = some r) (h0 : J s0) (hl : ∀ s, J s → ids.length = (M s).length) (hM : ∀ w, Inv c w ids mem → Inv c w ids (M s0)) (hlm : ids.length = mem.length) (hF : FrSub (F s0) fr)
    (hd : ∀ s, J s → FrDen ids (F s) ∧ MemDen ids (M s))
    (round : ∀ s, J s → satS c (roundJ c Q todo k (fun fr' mem' ids2 w' => ∃ s', J s' ∧ μ s' < μ s ∧ FrSub (F s') fr' ∧ ∃ junk, Inv c w' ids2 (M s' ++ junk)) (fun fr' mem' ids2 w' => ∃ s', (J s' ∧ E s') ∧ FrSub (F s') fr' ∧ ∃ junk, Inv c w' ids2 (M s' ++ junk))) ⟨F s, M s, [.code body]⟩ ids)
    (done : ∀ s, J s → E s → satS c Q ⟨F s, M s, r⟩ ids) : satN c Q (.loop body ⟨fr, mem, todo⟩) ids := by
  refine satN_iff.2 fun ids' w a hp hI hFr => ?_
  obtain rfl := ext0 hp (by rw [hI.len, hlm])
  have hIM := hM w hI
  refine wp_loop_ghost (fun n a w => ∃ s, μ s = n ∧ J s ∧ FrOk c ids' (F s) a ∧ Inv c w ids' (M s)) (μ s0) ⟨s0, rfl, h0, hFr.sub (List.prefix_refl _) hF (hd s0 h0).1, hIM⟩ ?_
  rintro n a w ⟨s, rfl, hJ, hFs, hIs⟩
  have h := satS_iff.1 (round s hJ)
  unfold treeOf at h
  rw [cont_code] at h
  refine exec_ok hm (ids0 := ids') body ?_ (List.prefix_refl _) (List.prefix_refl _) hIs hFs h
  intro x fr' mem' idsk ids2 a' w' h0' hs hp2 hF2 hI2
  simp only [cont, sat] at hs
  have hq := hs ids2 w' hp2 hI2
  have hp3 := h0'.trans hp2
  cases x with
  | normal =>
    obtain ⟨s', hJ', hμ, hsub, junk, hI3⟩ := hq
    exact ⟨μ s', hμ, s', rfl, hJ', hF2.sub hp3 hsub (hd s' hJ').1, hI3.forget hp3 (hl s' hJ') (hd s' hJ').2⟩
  | exit i =>
    simp only [roundJ] at hq
    by_cases hik : i = k
    · subst hik
      rw [if_pos rfl] at hq
      obtain ⟨s', ⟨hJ', hE'⟩, hsub, junk, hI3⟩ := hq
      refine ⟨.exit i, F s', M s', ids', rfl, List.prefix_refl _, hF2.sub hp3 hsub (hd s' hJ').1, hI3.forget hp3 (hl s' hJ') (hd s' hJ').2, ?_⟩
      rw [cont_pop]
      simp only [hr]
      exact satS_iff.1 (done s' hJ' hE')
    · rw [if_neg hik] at hq
      refine ⟨.exit i, fr', mem', ids2, rfl, hp3, hF2, hI2, ?_⟩
      rw [cont_pop]
      split at hq
      · rename_i r' hr'
        simp only [hr']
        exact satS_iff.1 hq
      · exact hq.elim
  | ret =>
    refine ⟨.ret, fr', mem', ids2, rfl, hp3, hF2, hI2, ?_⟩
    simp only [roundJ] at hq
    rw [cont_ret]
    exact satN_iff.1 hq
section
variable {k : Nat} {N X : Fr → Mem → List Nat → World → Prop}
/-- The loop is left. -/
theorem n_exitJ (h : ∀ ids' w', ids <+: ids' → Inv c w' ids' mem → X fr mem ids' w') : satN c (roundJ c Q todo k N X) (.fin (.exit k) fr mem) ids :=
  n_fin fun ids' w' hp hI => by
    simp only [roundJ, if_true]
    exact h ids' w' hp hI
/-- Another round. -/
theorem n_againJ (h : ∀ ids' w', ids <+: ids' → Inv c w' ids' mem → N fr mem ids' w') : satN c (roundJ c Q todo k N X) (.fin .normal fr mem) ids := n_fin fun ids' w' hp hI => h ids' w' hp hI
/-- The function is left. -/
theorem n_leaveJ (h : satN c Q (.fin .ret fr mem) ids) : satN c (roundJ c Q todo k N X) (.fin .ret fr mem) ids := n_fin fun ids' w' hp _ => satN_iff.2 fun ids2 w2 hp2 hI2 => satN_iff.1 h ids2 w2 (hp.trans hp2) hI2
end
end
end
section
set_option linter.unusedVariables false
set_option linter.unusedSimpArgs false
open Go.RowKit

/-- A call on one of a family. -/
theorem post_all {A : List Res} {i : Nat} {r r' : Res} {w w' : World} (hR : (allRes A).R w) (hlt : ∀ x ∈ (allRes A).fp, x < w.heap.size) (hi : A[i]? = some r) (hP : Post r r' w w') : Post (allRes A) (allRes (A.set i r')) w w' := by
  obtain ⟨hf, h1, h2, h3⟩ := hP
  obtain ⟨hA, hap⟩ := hR
  have hl := (List.getElem?_eq_some_iff.1 hi).1
  have hin : ∀ {j : Nat} {s : Res}, A[j]? = some s → ∀ x ∈ s.fp, x ∈ (allRes A).fp := fun hj x hx => List.mem_flatMap.2 ⟨_, List.mem_of_getElem? hj, hx⟩
  have hget : ∀ (j : Nat) s, (A.set i r')[j]? = some s → (j = i ∧ s = r') ∨ (j ≠ i ∧ A[j]? = some s) := by
    intro j s hs
    rw [List.getElem?_set] at hs
    split at hs
    · rename_i e
      subst e
      try simp only [hl, if_true] at hs
      cases hs
      exact .inl ⟨rfl, rfl⟩
    · rename_i e
      exact .inr ⟨fun h => e h.symm, hs⟩
  have hsz := hf.size
  have hkeep : ∀ (j : Nat) s, j ≠ i → A[j]? = some s → ∀ x ∈ s.fp, w'.heap[x]? = w.heap[x]? := fun j s hj hs x hx => hf.block x (hlt x (hin hs x hx)) fun hxr => hap j i s r hs hi hj x hx hxr
  have hfp : ∀ x ∈ (allRes (A.set i r')).fp, x ∈ (allRes A).fp ∨ w.heap.size ≤ x := by
    intro x hx
    obtain ⟨s, hs, hxs⟩ := List.mem_flatMap.1 hx
    obtain ⟨j, hj⟩ := List.mem_iff_getElem?.1 hs
    rcases hget j s hj with ⟨rfl, rfl⟩ | ⟨_, hj⟩
    · exact (h2 x hxs).imp (hin hi x) id
    · exact .inl (hin hj x hxs)
  refine ⟨hf.mono (hin hi), ⟨fun s hs => ?_, fun j k s t hj hk hjk x hx hxt => ?_⟩, hfp, fun x hx => ?_⟩
  · obtain ⟨j, hj⟩ := List.mem_iff_getElem?.1 hs
    rcases hget j s hj with ⟨rfl, rfl⟩ | ⟨hne, hj⟩
    · exact h1
    · exact s.stable w w' (hkeep j s hne hj) (hA s (List.mem_of_getElem? hj))
  · rcases hget j s hj with ⟨rfl, rfl⟩ | ⟨hne, hj⟩
    · rcases hget k t hk with ⟨rfl, rfl⟩ | ⟨hne2, hk⟩
      · exact hjk rfl
      · rcases h2 x hx with h | h
        · exact hap j k r t hi hk (fun e => hjk e) x h hxt
        · have := hlt x (hin hk x hxt); omega
    · rcases hget k t hk with ⟨rfl, rfl⟩ | ⟨hne2, hk⟩
      · rcases h2 x hxt with h | h
        · exact hap j k s r ‹A[j]? = some s› hi hjk x hx h
        · have := hlt x (hin ‹A[j]? = some s› x hx); omega
      · exact hap j k s t hj hk hjk x hx hxt
  · rcases hfp x hx with h | h
    · have := hlt x h; omega
    · obtain ⟨s, hs, hxs⟩ := List.mem_flatMap.1 hx
      obtain ⟨j, hj⟩ := List.mem_iff_getElem?.1 hs
      rcases hget j s hj with ⟨rfl, rfl⟩ | ⟨_, hj⟩
      · exact h3 x hxs
      · have := hlt x (hin hj x hxs); omega
theorem all_none {A : List Res} {w : World} (h : (allRes A).R w) : (allRes (A ++ [Res.none])).R w ∧ ∀ x ∈ (allRes (A ++ [Res.none])).fp, x ∈ (allRes A).fp := by
  obtain ⟨h1, h2⟩ := h
  have hget : ∀ (k : Nat) r, (A ++ [Res.none])[k]? = some r → A[k]? = some r ∨ r = Res.none := by
    intro k r hr
    by_cases hk : k < A.length
    · rw [List.getElem?_append_left hk] at hr; exact .inl hr
    · rw [List.getElem?_append_right (by omega)] at hr
      have := List.mem_of_getElem? hr
      simp at this
      exact .inr this
  refine ⟨⟨fun r hr => ?_, fun i j r s hi hj hij x hx hxs => ?_⟩, fun x hx => ?_⟩
  · rcases List.mem_append.1 hr with hr | hr
    · exact h1 r hr
    · rw [List.mem_singleton] at hr; subst hr; trivial
  · rcases hget i r hi with hi | rfl
    · rcases hget j s hj with hj | rfl
      · exact h2 i j r s hi hj hij x hx hxs
      · simp [Res.none] at hxs
    · simp [Res.none] at hx
  · obtain ⟨r, hr, hxr⟩ := List.mem_flatMap.1 hx
    rcases List.mem_append.1 hr with hr | hr
    · exact List.mem_flatMap.2 ⟨r, hr, hxr⟩
    · rw [List.mem_singleton] at hr; subst hr; simp [Res.none] at hxr
theorem all_empty {A : List Res} {w : World} (h : ∀ r ∈ A, r.R w ∧ r.fp = []) : (allRes A).R w ∧ (allRes A).fp = [] := by
  refine ⟨⟨fun r hr => (h r hr).1, fun i j r s hi _ _ x hx _ => ?_⟩, ?_⟩
  · rw [(h r (List.mem_of_getElem? hi)).2] at hx; cases hx
  · rw [List.eq_nil_iff_forall_not_mem]
    intro x hx
    obtain ⟨r, hr, hxr⟩ := List.mem_flatMap.1 hx
    rw [(h r hr).2] at hxr; cases hxr
theorem n_loopF {c : Ctx} {Q : SExit → Fr → Mem → List Nat → World → Prop} {ids : List Nat} {fr : Fr} {mem : Mem} {todo : List Task} {body : Code} {P : Prop} (hf : ∀ ids' w, ids <+: ids' → Inv c w ids' mem → P) (h : P → satN c Q (.loop body ⟨fr, mem, todo⟩) ids) : satN c Q (.loop body ⟨fr, mem, todo⟩) ids :=
  satN_iff.2 fun ids' w a hp hI hF => satN_iff.1 (h (hf ids' w hp hI)) ids' w a hp hI hF
theorem map_same {α β : Type} {f : α → β} {X : List α} {i : Nat} {x x' : α} (hx : X[i]? = some x) (h : f x' = f x) : (X.set i x').map f = X.map f := by
  rw [List.map_set]
  apply List.ext_getElem?
  intro k
  rw [List.getElem?_set]
  split
  · rename_i e
    subst e
    rw [if_pos (by rw [List.length_map]; exact (List.getElem?_eq_some_iff.1 hx).1), List.getElem?_map, hx, h]; rfl
  · rfl
theorem post_cells {b : Nat} {l l' : List Value} {t : TypeId} {w w' : World} (h : (cellsRes b l t).R w) (hf : Frm [b] w w') (hb : Blk w' b l'.toArray t) : Post (cellsRes b l t) (cellsRes b l' t) w w' := by
  refine ⟨hf, hb, fun x hx => .inl hx, fun x hx => ?_⟩
  simp [cellsRes] at hx
  subst hx
  exact hb.lt
end
end Go.Proofs.YtglafgpjgkphkaaGreatDoor
