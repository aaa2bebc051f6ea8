/- Statements that draw their order: one order that is looked at stands for all, if what is read early is found the same late. -/
import Derived.Test.YtglafgpjgkphkaaGreatDoorSn
namespace Go.Proofs.YtglafgpjgkphkaaGreatDoor
open Go.RowKit

section
variable {P : Program} {ops : Array Oper} {Q : Exit → Act → World → Prop}

abbrev Fact := World → Prop
def dropDep (ops : Array Oper) (j : Nat) (fl : List (Nat × Fact)) : List (Nat × Fact) := fl.filter fun p => !dep ops j p.1

/-- Whatever order is picked from here on; facts on the world that outlast all that does not wait for their operation. -/
def wpAnyF (P : Program) (ops : Array Oper) (Q : Exit → Act → World → Prop) : Nat → List (Nat × Fact) → Array Bool → Act → World → Prop
  | 0, _, listed, a, w => Region.ready .any ops listed = [] ∧ Q .normal a w
  | fuel + 1, fl, listed, a, w =>
    (Region.ready .any ops listed = [] → Q .normal a w) ∧
    ∀ j ∈ Region.ready .any ops listed, wpOp P ops Q j (fun a' w' => (∀ p ∈ dropDep ops j fl, p.2 w') ∧ wpAnyF P ops Q fuel (dropDep ops j fl) (listed.setIfInBounds j true) a' w') a w

theorem wpAny_of_F : ∀ {fuel : Nat} {fl : List (Nat × Fact)} {listed : Array Bool} {a : Act} {w : World}, wpAnyF P ops Q fuel fl listed a w → wpAny P .any ops Q fuel listed a w
  | 0, _, _, _, _, h => h
  | _ + 1, _, _, _, _, h => ⟨h.1, fun j hj => wpOp_mono (fun _ _ hh => wpAny_of_F hh.2) (h.2 j hj)⟩

theorem wpAnyF_fewer : ∀ {fuel : Nat} {fl fl' : List (Nat × Fact)} {listed : Array Bool} {a : Act} {w : World}, (∀ p ∈ fl', p ∈ fl) → wpAnyF P ops Q fuel fl listed a w → wpAnyF P ops Q fuel fl' listed a w
  | 0, _, _, _, _, _, _, h => h
  | _ + 1, fl, fl', _, _, _, hs, h => ⟨h.1, fun j hj => wpOp_mono (fun _ _ hh => by
      have hs' : ∀ p ∈ dropDep ops j fl', p ∈ dropDep ops j fl := fun p hp => by
        simp only [dropDep, List.mem_filter] at hp ⊢
        exact ⟨hs p hp.1, hp.2⟩
      exact ⟨fun p hp => hh.1 p (hs' p hp), wpAnyF_fewer hs' hh.2⟩) (h.2 j hj)⟩

theorem wpAnyF_true {i : Nat} : ∀ {fuel : Nat} {fl : List (Nat × Fact)} {listed : Array Bool} {a : Act} {w : World}, wpAnyF P ops Q fuel fl listed a w → wpAnyF P ops Q fuel ((i, fun _ => True) :: fl) listed a w
  | 0, _, _, _, _, h => h
  | _ + 1, fl, _, _, _, h => ⟨h.1, fun j hj => wpOp_mono (fun _ _ hh => by
      cases hd : dep ops j i with
      | true =>
        have e : dropDep ops j ((i, fun _ => True) :: fl) = dropDep ops j fl := by simp [dropDep, hd]
        rw [e]; exact hh
      | false =>
        have e : dropDep ops j ((i, fun _ => True) :: fl) = (i, fun _ => True) :: dropDep ops j fl := by simp [dropDep, hd]
        rw [e]
        refine ⟨fun p hp => ?_, wpAnyF_true hh.2⟩
        cases hp with
        | head => trivial
        | tail _ hp => exact hh.1 p hp) (h.2 j hj)⟩

/-- All that a listed operation waits for is listed. -/
def Closed (ops : Array Oper) (listed : Array Bool) : Prop :=
  ∀ j oj, ops[j]? = some oj → listed.getD j false = true → ∀ e ∈ oj.after, Region.binds .any e = true → listed.getD e.on false = true

theorem depF_closed {listed : Array Bool} (hc : Closed ops listed) {i : Nat} : ∀ {n j : Nat}, depF ops n j i = true → listed.getD j false = true → listed.getD i false = true
  | 0, j, h, _ => by simp [depF] at h
  | n + 1, j, h, hl => by
    simp only [depF] at h
    split at h
    · rename_i o ho
      obtain ⟨e, he, hb⟩ := Array.any_eq_true'.1 h
      simp only [Bool.and_eq_true, Bool.or_eq_true, beq_iff_eq] at hb
      have hle := hc j o ho hl e he hb.1
      rcases hb.2 with h1 | h1
      · rw [← h1]; exact hle
      · exact depF_closed hc h1 hle
    · cases h

theorem getD_tf {listed : Array Bool} {i : Nat} (h : listed.getD i true = false) : listed.getD i false = false := by
  rw [Array.getD_eq_getD_getElem?] at h ⊢
  cases hx : listed[i]? with
  | none => rw [hx] at h; simp at h
  | some b => rw [hx] at h; simpa using h

theorem ready_not_dep {listed : Array Bool} (hc : Closed ops listed) {i j : Nat} (hj : j ∈ Region.ready .any ops listed) (hi : listed.getD i true = false) : dep ops j i = false := by
  cases hd : dep ops j i with
  | false => rfl
  | true =>
    exfalso
    obtain ⟨_, o, ho, hall⟩ := mem_ready.1 hj
    have hi' := getD_tf hi
    unfold dep at hd
    cases hn : ops.size with
    | zero => rw [hn] at hd; simp [depF] at hd
    | succ n =>
      rw [hn] at hd
      simp only [depF, ho] at hd
      obtain ⟨e, he, hb⟩ := Array.any_eq_true'.1 hd
      simp only [Bool.and_eq_true, Bool.or_eq_true, beq_iff_eq] at hb
      have hle := hall e he hb.1
      rcases hb.2 with h1 | h1
      · rw [h1, hi'] at hle; cases hle
      · rw [depF_closed hc h1 hle] at hi'; cases hi'

theorem closed_set {listed : Array Bool} (hc : Closed ops listed) {i : Nat} (hi : i ∈ Region.ready .any ops listed) : Closed ops (listed.setIfInBounds i true) := by
  intro j oj hj hl e he hb
  obtain ⟨_, o, ho, hall⟩ := mem_ready.1 hi
  by_cases hji : i = j
  · subst hji
    rw [ho] at hj; simp at hj; subst hj
    exact getD_set_true (hall e he hb)
  · rw [getD_set_ne false hji] at hl
    exact getD_set_true (hc j oj hj hl e he hb)

/-- In every world with the fact the operation yields v (or it is passed over). -/
def YieldsF (P : Program) (ops : Array Oper) (F : Fact) (o : Oper) (v : Value) (a : Act) : Prop :=
  (Region.wanted o (yielded ops a.tmps) = true ∧ ∀ w, F w → (execOp a.eval o).run P w = .ok (.value v) w) ∨ (Region.wanted o (yielded ops a.tmps) = false ∧ v = undef)

theorem YieldsF.wpOp {F : Fact} {i : Nat} {o : Oper} {v : Value} {a : Act} {w : World} (hi : ops[i]? = some o) (hy : YieldsF P ops F o v a) (hw : F w) {K : Act → World → Prop} (h : K (a.put o.dst v) w) : wpOp P ops Q i K a w := by
  unfold Go.wpOp
  simp only [hi]
  rcases hy with ⟨h1, h2⟩ | ⟨h1, rfl⟩
  · rw [if_pos h1]; left; unfold Oper.wp; rw [h2 w hw]; exact h
  · rw [if_neg (by simp [h1])]; exact h

theorem YieldsF.same {F : Fact} {o : Oper} {v : Value} {a a' : Act} (hy : YieldsF P ops F o v a) (he : execOp a'.eval o = execOp a.eval o) (hw : Region.wanted o (yielded ops a'.tmps) = Region.wanted o (yielded ops a.tmps)) : YieldsF P ops F o v a' := by
  unfold YieldsF at *; rw [he, hw]; exact hy

/-- An operation apart from another: it may come first. -/
theorem wpOp_before {F : Fact} {j : Nat} {oi oj : Oper} {v : Value} (hj : ops[j]? = some oj) (hap : oi.apart ops oj = true) (hsi : ∀ cs b, oi.op ≠ .select cs b) (hsj : ∀ cs b, oj.op ≠ .select cs b)
    (hQ : ∀ c a w, ¬ Q (.panic c) a w) (hQo : ∀ a w, ¬ Q .outgrown a w) {K : Act → World → Prop} {a : Act} {w : World} (hy : YieldsF P ops F oi v a) (h : wpOp P ops Q j K (a.put oi.dst v) w) :
    wpOp P ops Q j (fun a' w' => YieldsF P ops F oi v a' ∧ K (a'.put oi.dst v) w') a w := by
  obtain ⟨h1, h2, h3⟩ := Oper.apart_spec hap
  have keep : ∀ (u : Value) (b : Act), YieldsF P ops F oi v b → YieldsF P ops F oi v (b.put oj.dst u) := fun u b hb => hb.same (execOp_put oi hsi b oj.dst u h3) (wanted_put oi b oj.dst u h3)
  have swap : ∀ (u : Value) (b : Act), (b.put oi.dst v).put oj.dst u = (b.put oj.dst u).put oi.dst v := fun u b => Act.put_comm b v u h2
  unfold wpOp at h ⊢
  rw [hj] at h ⊢
  dsimp only at h ⊢
  rw [wanted_put oj a oi.dst v h1] at h
  cases hw : Region.wanted oj (yielded ops a.tmps) with
  | false =>
    rw [hw] at h
    rw [if_neg (by simp)] at h ⊢
    exact ⟨keep _ a hy, by rw [← swap]; exact h⟩
  | true =>
    rw [hw] at h
    rw [if_pos rfl] at h ⊢
    rcases h with h | ⟨_, a0, w0, h0⟩
    · left
      unfold Oper.wp at h ⊢
      rw [execOp_put oj hsj a oi.dst v h1] at h
      cases hr : (execOp a.eval oj).run P w with
      | halt x w' =>
        rw [hr] at h
        cases x <;> simp only [Oper.upon] at h ⊢
        exact absurd h (hQ _ _ _)
      | ok nx w' =>
        rw [hr] at h
        cases nx <;> simp only [Oper.upon] at h ⊢
        case value u => exact ⟨keep u a hy, by rw [← swap]; exact h⟩
        case skip => exact ⟨keep _ a hy, by rw [← swap]; exact h⟩
        case defer d =>
          refine ⟨keep _ _ (hy.same rfl rfl), ?_⟩
          rw [← swap, ← Act.put_defers]
          exact h
        case enter f args =>
          refine h.mono fun e w'' he => ?_
          cases e with
          | returned u => exact ⟨keep u a hy, by rw [← swap]; exact he⟩
          | panicked ch => exact absurd he (hQ _ _ _)
          | outgrown => obtain ⟨a0, w0, h0⟩ := he; exact absurd h0 (hQo _ _)
        case row r args => exact h.mono fun u w'' he => ⟨keep u a hy, by rw [← swap]; exact he⟩
    · exact absurd h0 (hQo _ _)

/-- AN OPERATION THAT MAY COME UP IS TAKEN FIRST. -/
theorem wpAnyF_first {F : Fact} {i : Nat} {oi : Oper} {v : Value} (hi : ops[i]? = some oi) (hsel : ∀ (j : Nat) (o : Oper) cs b, ops[j]? = some o → o.op ≠ .select cs b)
    (hQ : ∀ c a w, ¬ Q (.panic c) a w) (hQo : ∀ a w, ¬ Q .outgrown a w) : ∀ (fuel : Nat) (fl : List (Nat × Fact)) (listed : Array Bool) (a : Act) (w : World), Closed ops listed →
      (∀ j oj, ops[j]? = some oj → j ≠ i → listed.getD j true = false → dep ops j i = false → oi.apart ops oj = true) → i ∈ Region.ready .any ops listed → YieldsF P ops F oi v a → F w → (∀ p ∈ fl, p.2 w) →
      wpAnyF P ops Q fuel ((i, F) :: fl) (listed.setIfInBounds i true) (a.put oi.dst v) w → wpAnyF P ops Q (fuel + 1) fl listed a w := by
  intro fuel
  induction fuel with
  | zero =>
    intro fl listed a w hc hfree hr hy hF hfl H
    refine ⟨fun h => (by rw [h] at hr; cases hr), fun j hj => ?_⟩
    by_cases hji : j = i
    · subst hji
      exact hy.wpOp hi hF ⟨fun p hp => hfl p ((List.mem_filter.1 hp).1), H⟩
    · have := ready_mono hj hji
      rw [H.1] at this; cases this
  | succ fuel ih =>
    intro fl listed a w hc hfree hr hy hF hfl H
    refine ⟨fun h => (by rw [h] at hr; cases hr), fun j hj => ?_⟩
    by_cases hji : j = i
    · subst hji
      exact hy.wpOp hi hF ⟨fun p hp => hfl p ((List.mem_filter.1 hp).1), wpAnyF_fewer (fun p hp => List.mem_cons_of_mem _ ((List.mem_filter.1 hp).1)) H⟩
    · have h1 := H.2 j (ready_mono hj hji)
      obtain ⟨hjun, oj, hoj, _⟩ := mem_ready.1 hj
      have hiun := (mem_ready.1 hr).1
      have hdep := ready_not_dep hc hj hiun
      have hd : dropDep ops j ((i, F) :: fl) = (i, F) :: dropDep ops j fl := by simp [dropDep, hdep]
      rw [hd] at h1
      have h2 := wpOp_before (F := F) hoj (hfree j oj hoj hji hjun hdep) (fun cs b => hsel i oi cs b hi) (fun cs b => hsel j oj cs b hoj) hQ hQo hy h1
      refine wpOp_mono ?_ h2
      rintro a' w' ⟨hy', hfacts, H'⟩
      refine ⟨fun p hp => hfacts p (List.mem_cons_of_mem _ hp), ?_⟩
      refine ih (dropDep ops j fl) (listed.setIfInBounds j true) a' w' (closed_set hc hj) ?_ (ready_mono hr (Ne.symm hji)) hy' (hfacts _ (List.mem_cons_self ..)) (fun p hp => hfacts p (List.mem_cons_of_mem _ hp)) ?_
      · intro k ok hk hki hun hdk
        refine hfree k ok hk hki ?_ hdk
        by_cases hjk : j = k
        · subst hjk; exact hjun
        · rw [getD_set_ne true hjk] at hun; exact hun
      · rw [Array.setIfInBounds_comm _ _ hji]; exact H'

/-- All operations that may come up, each looked at. -/
theorem wpAnyF_heads {l : List Nat} {fuel : Nat} {fl : List (Nat × Fact)} {listed : Array Bool} {a : Act} {w : World} (hr : Region.ready .any ops listed = l) (hl : l ≠ [])
    (h : ∀ i ∈ l, wpOp P ops Q i (fun a' w' => (∀ p ∈ dropDep ops i fl, p.2 w') ∧ wpAnyF P ops Q fuel (dropDep ops i fl) (listed.setIfInBounds i true) a' w') a w) : wpAnyF P ops Q (fuel + 1) fl listed a w :=
  ⟨fun h0 => absurd (hr.symm.trans h0) hl, fun j hj => h j (hr ▸ hj)⟩

/-- The one operation that may come up. -/
theorem wpAnyF_only {i fuel : Nat} {fl : List (Nat × Fact)} {listed : Array Bool} {a : Act} {w : World} (hr : Region.ready .any ops listed = [i])
    (h : wpOp P ops Q i (fun a' w' => (∀ p ∈ dropDep ops i fl, p.2 w') ∧ wpAnyF P ops Q fuel (dropDep ops i fl) (listed.setIfInBounds i true) a' w') a w) : wpAnyF P ops Q (fuel + 1) fl listed a w :=
  ⟨fun h0 => (by rw [h0] at hr; cases hr), fun j hj => by rw [hr] at hj; simp at hj; subst hj; exact h⟩

theorem freeD_spec {listed : Array Bool} {i : Nat} {oi : Oper} (h : freeD ops listed i oi = true) : ∀ j oj, ops[j]? = some oj → j ≠ i → listed.getD j true = false → dep ops j i = false → oi.apart ops oj = true := by
  intro j oj hj hji hl hd
  have hlt : j < ops.size := (Array.getElem?_eq_some_iff.1 hj).1
  have := List.all_eq_true.1 h j (List.mem_range.2 hlt)
  simp only [hj, hl, hd, Bool.or_eq_true, beq_iff_eq, Bool.false_eq_true, or_false] at this
  rcases this with h1 | h1
  · exact absurd h1 hji
  · exact h1
end
end Go.Proofs.YtglafgpjgkphkaaGreatDoor
