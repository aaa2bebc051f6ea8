/- The machine and the trees: what is owed of a state, and that a step of the machine may stand for it. -/
import Derived.Test.YtglafgpjgkphkaaGreatDoorMa
import Derived.Test.YtglafgpjgkphkaaGreatDoorSo
namespace Go.Proofs.YtglafgpjgkphkaaGreatDoor
open Go.RowKit

/-- What is left to do, as a tree. -/
def cont (c : Ctx) : List Task → SExit → Fr → Mem → Tree
  | [], x, fr, mem => .fin x fr mem
  | .blk id :: r, x, fr, mem => match x with
    | .exit i => match Nat.beq i id with | true => cont c r .normal fr mem | false => cont c r (.exit i) fr mem
    | .normal => cont c r .normal fr mem
    | .ret => cont c r .ret fr mem
  | t :: r, x, fr, mem => match x with
    | .normal => match t with
      | .code b => exec c b fr mem (cont c r)
      | .ops all rest => execOps c all rest fr mem (cont c r .normal)
      | .draw all ord rs => execD c all ord fr mem rs (cont c r .normal)
      | .rc rs => recheck c mem rs (cont c r .normal fr mem)
      | .blk _ => cont c r .normal fr mem
    | x => cont c r x fr mem

def treeOf (c : Ctx) (s : St) : Tree := cont c s.todo .normal s.fr s.mem

/-- A word on a state that nothing looks through. -/
@[irreducible] def satS (c : Ctx) (Q : SExit → Fr → Mem → List Nat → World → Prop) (s : St) (ids : List Nat) : Prop := sat c Q (treeOf c s) ids
theorem satS_iff {c : Ctx} {Q : SExit → Fr → Mem → List Nat → World → Prop} {s : St} {ids : List Nat} : satS c Q s ids ↔ sat c Q (treeOf c s) ids := by unfold satS; rfl

def satN' (c : Ctx) (Q : SExit → Fr → Mem → List Nat → World → Prop) (ids : List Nat) : Node → Prop
  | .fin x fr mem => sat c Q (.fin x fr mem) ids
  | .br b s t => (b = true → satS c Q s ids) ∧ (b = false → satS c Q t ids)
  | .both s t => satS c Q s ids ∧ satS c Q t ids
  | .must b s => b = true ∧ satS c Q s ids
  | .chk b s => b = true ∧ satS c Q s ids
  | .ld t a dst s => sat c Q (.ld t a s.mem fun r => putK c dst r s.fr fun fr => cont c s.todo .normal fr s.mem) ids
  | .ldD t a i o s => match s.todo with
    | .draw all ord rs :: rest => sat c Q (.ld t a s.mem fun r => putK c o.dst r s.fr fun fr => cont c (.draw all ord (⟨i, s.fr, o, r⟩ :: rs) :: rest) .normal fr s.mem) ids
    | _ => False
  | .ldR t a r s => sat c Q (.ld t a s.mem fun r' => .same r' r (treeOf c s)) ids
  | .call f args dst s => sat c Q (.call f args s.mem fun r mem => putK c dst r s.fr fun fr => cont c s.todo .normal fr mem) ids
  | .same x y s => x = y ∧ satS c Q s ids
  | .op o s => sat c Q (.op o s.fr s.mem fun r mem => putK c o.dst r s.fr fun fr => cont c s.todo .normal fr mem) ids
  | .loop body s => sat c Q (.loop body s.fr s.mem (cont c s.todo)) ids
  | .stuck _ => False
@[irreducible] def satN (c : Ctx) (Q : SExit → Fr → Mem → List Nat → World → Prop) (n : Node) (ids : List Nat) : Prop := satN' c Q ids n
theorem satN_iff {c : Ctx} {Q : SExit → Fr → Mem → List Nat → World → Prop} {n : Node} {ids : List Nat} : satN c Q n ids ↔ satN' c Q ids n := by unfold satN; rfl

section
variable {c : Ctx} {Q : SExit → Fr → Mem → List Nat → World → Prop} {ids : List Nat}

theorem putN_ok {dst : Option Nat} {r : SV} {fr : Fr} {k : Fr → Node} {kt : Fr → Tree} (hk : ∀ fr', satN' c Q ids (k fr') → sat c Q (kt fr') ids) (h : satN' c Q ids (putN c dst r fr k)) : sat c Q (putK c dst r fr kt) ids := by
  unfold putN at h
  unfold putK
  simp only [forceSV_eq] at h ⊢
  cases dst with
  | none => exact hk _ h
  | some d =>
    dsimp only at h ⊢
    cases hb : Nat.blt d c.N with
    | true => rw [hb] at h; exact hk _ h
    | false => rw [hb] at h; exact h.elim

theorem guardN_ok {ops : List Oper} {fr : Fr} {g : Option (Nat × Bool)} {mem : Mem} {todo : List Task} {yes no : Fr → Node} {yt nt : Fr → Tree}
    (ht : ∀ f, treeOf c ⟨f, mem, todo⟩ = guardK ops f g yt nt) (hy : ∀ f, satN' c Q ids (yes f) → sat c Q (yt f) ids) (hn : ∀ f, satN' c Q ids (no f) → sat c Q (nt f) ids)
    (h : satN' c Q ids (guardN ops fr g mem todo yes no)) : sat c Q (guardK ops fr g yt nt) ids := by
  unfold guardN at h
  split at h
  · exact hy _ h
  · rename_i j want
    split at h
    · exact h.elim
    · rename_i oj hj
      split at h
      · exact h.elim
      · rename_i d hd
        split at h
        · exact h.elim
        · rename_i hh
          unfold guardK
          simp only [hj, hd, hh]
          split at h
          · rename_i hl
            simp only [hl]
            cases want
            · exact hn _ h
            · exact hy _ h
          · rename_i hl
            simp only [hl]
            cases want
            · exact hy _ h
            · exact hn _ h
          · rename_i hl
            simp only [hl]
            exact hn _ h
          · rename_i b hl
            simp only [hl]
            obtain ⟨h1, h2⟩ := h
            have e1 := satS_iff.1 ∘ h1
            have e2 := satS_iff.1 ∘ h2
            rw [ht] at e1 e2
            have hb := Nat.beq_refl d
            unfold guardK at e1 e2
            simp only [hj, hd, has, look, hb] at e1 e2
            cases want
            · exact ⟨e1, e2⟩
            · exact ⟨e1, e2⟩
          · exact h.elim

theorem stepN_ok {e : Ev} {dst : Option Nat} {fr : Fr} {mem : Mem} {rest : List Task} {k : Fr → Node} {no : Node} {not : Tree}
    (hk : ∀ f, satN' c Q ids (k f) → sat c Q (cont c rest .normal f mem) ids) (hno : satN' c Q ids no → sat c Q not ids)
    (h : satN' c Q ids (stepN c e dst fr mem rest k no)) : sat c Q (stepEv e mem (fun r => putK c dst r fr fun f => cont c rest .normal f mem) not) ids := by
  unfold stepN at h
  unfold stepEv
  split at h
  · exact putN_ok hk h
  · rename_i b r
    have hb : b = true := by
      unfold putN at h
      cases dst with
      | none => exact h.1
      | some d =>
        simp only [forceSV_eq] at h
        cases hb : Nat.blt d c.N with
        | true => rw [hb] at h; exact h.1
        | false => rw [hb] at h; exact h.elim
    exact ⟨hb, putN_ok (k := fun fr => .must b ⟨fr, mem, rest⟩) (fun f hh => satS_iff.1 hh.2) h⟩
  · rename_i b x y
    unfold putN at h
    unfold putK
    cases dst with
    | none => exact ⟨satS_iff.1 ∘ h.1, satS_iff.1 ∘ h.2⟩
    | some d =>
      simp only [forceSV_eq] at h ⊢
      cases hb : Nat.blt d c.N with
      | true =>
        simp only [hb] at h ⊢
        exact ⟨satS_iff.1 ∘ h.1, satS_iff.1 ∘ h.2⟩
      | false => simp only [hb] at h; exact h.elim
  · exact h
  · exact hno h

theorem opN_ok {fr : Fr} {mem : Mem} {o : Oper} {rest : List Task} {k : Fr → Mem → Node} (hk : ∀ f m, satN' c Q ids (k f m) → sat c Q (cont c rest .normal f m) ids)
    (h : satN' c Q ids (opN c fr mem o rest k)) : sat c Q (doOp c fr mem o fun r mem => putK c o.dst r fr fun f => cont c rest .normal f mem) ids := by
  have fall : satN' c Q ids (.op o ⟨fr, mem, rest⟩) → sat c Q (.op o fr mem fun r mem => putK c o.dst r fr fun f => cont c rest .normal f mem) ids := fun h => h
  unfold opN at h
  unfold doOp
  split at h
  · rename_i t x v ho
    simp only [ho, forceMem_eq] at h ⊢
    split at h
    · rename_i p q hx hy
      simp only [hx, hy]
      split at h
      · rename_i m hm
        simp only [hm]
        exact putN_ok (fun f hh => hk _ _ hh) h
      · rename_i hm
        simp only [hm]
        exact fall h
    · rename_i hno
      split
      · rename_i p q hx hy
        exact absurd hy (fun _ => hno _ _ hx hy)
      · exact fall h
  · rename_i t ho
    simp only [ho, forceMem_eq] at h ⊢
    split at h
    · rename_i z hz
      simp only [hz]
      split at h
      · rename_i m hm
        simp only [hm]
        exact putN_ok (fun f hh => hk _ _ hh) h
      · rename_i hm
        simp only [hm]
        exact fall h
    · rename_i hz
      simp only [hz]
      exact fall h
  · rename_i t x ho
    simp only [ho, forceMem_eq] at h ⊢
    split at h
    · rename_i z hz
      simp only [hz]
      split at h
      · rename_i m hm
        simp only [hm]
        exact putN_ok (fun f hh => hk _ _ hh) h
      · rename_i hm
        simp only [hm]
        exact fall h
    · rename_i hz
      simp only [hz]
      exact fall h
  · rename_i f args ts ho
    simp only [ho, forceL_eq, forceMem_eq] at h ⊢
    split at h
    · rename_i g first captured l hf hl
      simp only [hf, hl]
      split at h
      · rename_i hc
        simp only [hc]
        exact h
      · rename_i hc
        simp only [hc]
        exact fall h
    · rename_i hno
      split
      · rename_i g first captured l hf hl
        exact absurd hl (fun _ => hno _ _ _ _ hf hl)
      · exact fall h
  · rename_i h1 h2 h3 h4
    split
    · rename_i ho; exact absurd ho (h1 _ _ _)
    · rename_i ho; exact absurd ho (h2 _)
    · rename_i ho; exact absurd ho (h3 _ _)
    · rename_i ho; exact absurd ho (h4 _ _ _)
    · exact stepN_ok (fun f hh => hk _ _ hh) fall h

theorem pushR_eq {α : Type} (b : Bool) (x : Rec) (rs : List Rec) (k : List Rec → α) : pushR b x rs k = k (match b with | true => x :: rs | false => rs) := by cases b <;> rfl

theorem must_of_putN {dst : Option Nat} {r : SV} {fr : Fr} {b : Bool} {st : Fr → St} (h : satN' c Q ids (putN c dst r fr fun fr => .must b (st fr))) : b = true := by
  unfold putN at h
  simp only [forceSV_eq] at h
  cases dst with
  | none => exact h.1
  | some d =>
    cases hb : Nat.blt d c.N with
    | true => simp only [hb] at h; exact h.1
    | false => simp only [hb] at h; exact h.elim

theorem quietN_ok {fr : Fr} {mem : Mem} {i : Nat} {o : Oper} {rs : List Rec} {all : List Oper} {ord : Odr} {rest : List Task} {k : Fr → List Rec → Node}
    (hk : ∀ f rs, satN' c Q ids (k f rs) → sat c Q (cont c (.draw all ord rs :: rest) .normal f mem) ids)
    (h : satN' c Q ids (quietN c fr mem i o rs (fun rs => .draw all ord rs :: rest) k)) :
    sat c Q (stepEv (tame (isLoad o.op) (pureEv c fr mem o.op)) mem (fun r => forceSV r fun r => putK c o.dst r fr fun fr' => pushR (isLoad o.op) ⟨i, fr, o, r⟩ rs fun rs => execD c all ord fr' mem rs (cont c rest .normal)) (.stuck "draw")) ids := by
  have hld : ∀ t a, tame (isLoad o.op) (pureEv c fr mem o.op) = .ld t a → isLoad o.op = true := by
    intro t a hh
    cases hb : isLoad o.op with
    | true => rfl
    | false => rw [hb] at hh; unfold tame at hh; cases hp : pureEv c fr mem o.op <;> simp [hp] at hh
  unfold quietN at h
  unfold stepEv
  generalize tame (isLoad o.op) (pureEv c fr mem o.op) = e at h hld ⊢
  cases e with
  | ok r =>
    simp only [forceSV_eq, pushR_eq] at h ⊢
    exact putN_ok (k := fun f => k f (match isLoad o.op with | true => ⟨i, fr, o, r⟩ :: rs | false => rs)) (fun f hh => hk _ _ hh) h
  | must b r =>
    simp only [forceSV_eq, pushR_eq] at h ⊢
    refine ⟨must_of_putN h, putN_ok (k := fun f => .must b ⟨f, mem, .draw all ord (match isLoad o.op with | true => ⟨i, fr, o, r⟩ :: rs | false => rs) :: rest⟩) (fun f hh => satS_iff.1 hh.2) h⟩
  | pick b x y =>
    simp only [forceSV_eq, pushR_eq] at h ⊢
    unfold putN at h
    unfold putK
    cases hd : o.dst with
    | none =>
      simp only [hd] at h ⊢
      exact ⟨satS_iff.1 ∘ h.1, satS_iff.1 ∘ h.2⟩
    | some d =>
      simp only [hd, forceSV_eq] at h ⊢
      cases hb : Nat.blt d c.N with
      | true =>
        simp only [hb] at h ⊢
        exact ⟨satS_iff.1 ∘ h.1, satS_iff.1 ∘ h.2⟩
      | false => simp only [hb] at h; exact h.elim
  | ld t a =>
    have hl := hld t a rfl
    simp only [forceSV_eq, pushR_eq, hl] at h ⊢
    exact h
  | no => exact h.elim

theorem cont_pop {i : Nat} {fr : Fr} {mem : Mem} : ∀ (r : List Task), cont c r (.exit i) fr mem = match popTo i r with | some r' => cont c r' .normal fr mem | none => .fin (.exit i) fr mem
  | [] => rfl
  | .blk j :: r => by
    simp only [cont, popTo]
    cases hb : Nat.beq i j with
    | true => rfl
    | false => exact cont_pop r
  | .code _ :: r => by simp only [cont, popTo]; exact cont_pop r
  | .ops _ _ :: r => by simp only [cont, popTo]; exact cont_pop r
  | .draw _ _ _ :: r => by simp only [cont, popTo]; exact cont_pop r
  | .rc _ :: r => by simp only [cont, popTo]; exact cont_pop r
theorem cont_ret {fr : Fr} {mem : Mem} : ∀ (r : List Task), cont c r .ret fr mem = .fin .ret fr mem
  | [] => rfl
  | .blk j :: r => by simp only [cont]; exact cont_ret r
  | .code _ :: r => by simp only [cont]; exact cont_ret r
  | .ops _ _ :: r => by simp only [cont]; exact cont_ret r
  | .draw _ _ _ :: r => by simp only [cont]; exact cont_ret r
  | .rc _ :: r => by simp only [cont]; exact cont_ret r
theorem ordK_eq {α : Type} : ∀ (l : List Oper) (n : Nat) (k : Odr → α), ordK l n k = k (ordL l n)
  | [], n, k => rfl
  | _ :: r, n, k => by simp only [ordK, ordL, forceNat_eq, ordK_eq r]

theorem cont_code {b : Code} {r : List Task} {fr : Fr} {mem : Mem} : cont c (.code b :: r) .normal fr mem = exec c b fr mem (cont c r) := by simp only [cont]
theorem cont_ops {all rest : List Oper} {r : List Task} {fr : Fr} {mem : Mem} : cont c (.ops all rest :: r) .normal fr mem = execOps c all rest fr mem (cont c r .normal) := by simp only [cont]
theorem cont_draw {all : List Oper} {ord : Odr} {rs : List Rec} {r : List Task} {fr : Fr} {mem : Mem} : cont c (.draw all ord rs :: r) .normal fr mem = execD c all ord fr mem rs (cont c r .normal) := by simp only [cont]
theorem cont_rc {rs : List Rec} {r : List Task} {fr : Fr} {mem : Mem} : cont c (.rc rs :: r) .normal fr mem = recheck c mem rs (cont c r .normal fr mem) := by simp only [cont]
theorem cont_blk {i : Nat} {r : List Task} {fr : Fr} {mem : Mem} : cont c (.blk i :: r) .normal fr mem = cont c r .normal fr mem := by simp only [cont]

/-- THE MACHINE STANDS FOR THE TREES. -/
theorem run_ok : ∀ (n : Nat) (fr : Fr) (mem : Mem) (todo : List Task), satN' c Q ids (run c n fr mem todo) → sat c Q (cont c todo .normal fr mem) ids
  | 0, _, _, _, h => by simp only [run] at h; exact h.elim
  | n + 1, fr, mem, [], h => by simp only [run] at h; exact h
  | n + 1, fr, mem, .blk i :: r, h => by simp only [run] at h; rw [cont_blk]; exact run_ok n _ _ _ h
  | n + 1, fr, mem, .code code :: r, h => by
    rw [cont_code]
    cases code with
    | skip => simp only [run] at h; exact run_ok n _ _ _ h
    | label l => simp only [run] at h; exact run_ok n _ _ _ h
    | scope x =>
      simp only [run] at h
      have := run_ok n _ _ _ h
      rw [cont_code] at this
      simp only [exec]
      exact this
    | region id ops draw =>
      obtain ⟨l⟩ := ops
      cases draw with
      | false =>
        simp only [run] at h
        have := run_ok n _ _ _ h
        rw [cont_ops] at this
        exact this
      | true =>
        simp only [run] at h
        simp only [exec, execDraw]
        cases ho : lookO c.os id with
        | some ord =>
          simp only [ho] at h ⊢
          refine ⟨h.1, ?_⟩
          have := satS_iff.1 h.2
          unfold treeOf at this
          rw [cont_draw] at this
          exact this
        | none =>
          simp only [ho, ordK_eq] at h ⊢
          refine ⟨h.1, ?_⟩
          have := satS_iff.1 h.2
          unfold treeOf at this
          rw [cont_draw] at this
          exact this
    | seq a b =>
      simp only [run] at h
      have := run_ok n _ _ _ h
      rw [cont_code] at this
      simp only [exec]
      have e : (cont c (.code b :: r)) = fun x fr mem => match x with | .normal => exec c b fr mem (cont c r) | .exit i => cont c r (.exit i) fr mem | .ret => cont c r .ret fr mem := by
        funext x fr mem
        cases x <;> simp only [cont]
      rw [e] at this
      exact this
    | cond t a b =>
      simp only [run] at h
      simp only [exec]
      split at h
      · rename_i he
        simp only [he]
        have := run_ok n _ _ _ h
        rw [cont_code] at this
        exact this
      · rename_i he
        simp only [he]
        have := run_ok n _ _ _ h
        rw [cont_code] at this
        exact this
      · rename_i p he
        simp only [he]
        refine ⟨fun hp => ?_, fun hp => ?_⟩
        · have := satS_iff.1 (h.1 hp)
          unfold treeOf at this
          rw [cont_code] at this
          exact this
        · have := satS_iff.1 (h.2 hp)
          unfold treeOf at this
          rw [cont_code] at this
          exact this
      · exact h.elim
    | block id a =>
      simp only [run] at h
      have := run_ok n _ _ _ h
      rw [cont_code] at this
      simp only [exec]
      have e : (cont c (.blk id :: r)) = fun x fr mem => match x with | .exit i => (match Nat.beq i id with | true => cont c r .normal fr mem | false => cont c r (.exit i) fr mem) | .normal => cont c r .normal fr mem | .ret => cont c r .ret fr mem := by
        funext x fr mem
        cases x <;> simp only [cont]
      rw [e] at this
      exact this
    | loop b => simp only [run] at h; exact h
    | exit i =>
      simp only [run] at h
      simp only [exec]
      rw [cont_pop]
      split at h
      · rename_i r' hr
        simp only [hr]
        exact run_ok n _ _ _ h
      · rename_i hr
        simp only [hr]
        exact h
    | ret =>
      simp only [run] at h
      simp only [exec]
      rw [cont_ret]
      exact h
    | _ => simp only [run] at h; exact h.elim
  | n + 1, fr, mem, .ops all [] :: r, h => by
    simp only [run] at h
    rw [cont_ops]
    exact run_ok n _ _ _ h
  | n + 1, fr, mem, .ops all (o :: rest) :: r, h => by
    simp only [run] at h
    rw [cont_ops]
    simp only [execOps]
    refine guardN_ok (fun f => ?_) (fun f hh => ?_) (fun f hh => ?_) h
    · unfold treeOf; rw [cont_ops]; simp only [execOps]
    · have := opN_ok (fun f m hh => run_ok n _ _ _ hh) hh
      simp only [cont_ops] at this
      exact this
    · refine putN_ok (fun f hh => ?_) hh
      have := run_ok n _ _ _ hh
      rw [cont_ops] at this
      exact this
  | n + 1, fr, mem, .draw all .nil rs :: r, h => by
    simp only [run] at h
    rw [cont_draw]
    exact run_ok n _ _ _ h
  | n + 1, fr, mem, .draw all (.fork i rc rest other) rs :: r, h => by
    simp only [run] at h
    rw [cont_draw]
    simp only [execD]
    have h1 := satS_iff.1 h.1
    have h2 := satS_iff.1 h.2
    unfold treeOf at h1 h2
    rw [cont_draw] at h1 h2
    exact ⟨h1, h2⟩
  | n + 1, fr, mem, .draw all (.cons i rc rest) rs :: r, h => by
    simp only [run] at h
    rw [cont_draw]
    simp only [execD, stepD]
    split at h
    · exact h.elim
    · rename_i o ho
      simp only [ho]
      cases hl : loud o.op with
      | true =>
        simp only [hl, keepRK_eq] at h ⊢
        refine guardN_ok (fun f => ?_) (fun f hh => ?_) (fun f hh => ?_) h
        · unfold treeOf; rw [cont_draw]; simp only [execD, stepD, ho, hl, keepRK_eq]
        · have := opN_ok (fun f m hh => run_ok n _ _ _ hh) hh
          simp only [cont_rc, cont_draw] at this
          exact this
        · refine putN_ok (fun f hh => ?_) hh
          have := run_ok n _ _ _ hh
          rw [cont_draw] at this
          exact this
      | false =>
        simp only [hl] at h ⊢
        refine guardN_ok (fun f => ?_) (fun f hh => ?_) (fun f hh => ?_) h
        · unfold treeOf; rw [cont_draw]; simp only [execD, stepD, ho, hl]
        · exact quietN_ok (fun f rs hh => run_ok n _ _ _ hh) hh
        · refine putN_ok (fun f hh => ?_) hh
          have := run_ok n _ _ _ hh
          rw [cont_draw] at this
          exact this
  | n + 1, fr, mem, .rc [] :: r, h => by
    simp only [run] at h
    rw [cont_rc]
    exact run_ok n _ _ _ h
  | n + 1, fr, mem, .rc (x :: xs) :: r, h => by
    simp only [run] at h
    rw [cont_rc]
    simp only [recheck]
    unfold stepEv
    split at h
    · rename_i r' he
      simp only [he, forceSV_eq] at h ⊢
      refine ⟨h.1, ?_⟩
      have := satS_iff.1 h.2
      unfold treeOf at this
      rw [cont_rc] at this
      exact this
    · rename_i t a he
      simp only [he]
      have := h
      simp only [satN'] at this
      unfold treeOf at this
      simp only [cont_rc] at this
      exact this
    · exact h.elim
end
end Go.Proofs.YtglafgpjgkphkaaGreatDoor
