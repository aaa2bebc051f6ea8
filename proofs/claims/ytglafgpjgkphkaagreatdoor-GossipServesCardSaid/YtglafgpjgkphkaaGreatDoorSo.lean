/- What the reckoner reckons is what the code does: its soundness, second part: operations, regions, code, calls. -/
import Derived.Test.YtglafgpjgkphkaaGreatDoorSd
import Derived.Scope
import Derived.Test.YtglafgpjgkphkaaGreatDoorSn
namespace Go.Proofs.YtglafgpjgkphkaaGreatDoor
open Go.RowKit

section
variable {c : Ctx} {ids : List Nat} {w : World} {a : Act} {fr : Fr} {mem : Mem}

theorem i64Of_eq {y : SV} {b : Int} (h : i64Of y = some b) : y = .int .i64 b := by
  unfold i64Of at h
  split at h
  · split at h
    · rename_i hk
      obtain rfl := kEq_eq hk
      simp at h; subst h; rfl
    · cases h
  · cases h

theorem foldMin_ok : ∀ {l : List SV} {vs : List Value} {x m : Int}, denL ids l = some vs → foldMin x l = some m → (vs.foldlM Builtin.min2 (.int .i64 x)).run c.P w = .ok (.int .i64 m) w
  | [], vs, x, m, h, e => by simp [denL] at h; subst h; simp [foldMin] at e; subst e; simp
  | y :: l, vs, x, m, h, e => by
    obtain ⟨v, vs', hy, hl, rfl⟩ := denL_cons h
    simp only [foldMin] at e
    split at e
    case h_2 => cases e
    rename_i b hb
    obtain rfl := i64Of_eq hb
    simp [den] at hy; subst hy
    have : (Builtin.min2 (.int .i64 x) (.int .i64 b)).run c.P w = .ok (.int .i64 (min x b)) w := by
      simp only [Builtin.min2, Sem.run_pure]
      congr 2
      rw [Int.min_def]; split <;> split <;> first | rfl | omega
    simp only [List.foldlM_cons, Sem.run_bind, this, Result.andThen_ok]
    exact foldMin_ok hl e

theorem foldMax_ok : ∀ {l : List SV} {vs : List Value} {x m : Int}, denL ids l = some vs → foldMax x l = some m → (vs.foldlM Builtin.max2 (.int .i64 x)).run c.P w = .ok (.int .i64 m) w
  | [], vs, x, m, h, e => by simp [denL] at h; subst h; simp [foldMax] at e; subst e; simp
  | y :: l, vs, x, m, h, e => by
    obtain ⟨v, vs', hy, hl, rfl⟩ := denL_cons h
    simp only [foldMax] at e
    split at e
    case h_2 => cases e
    rename_i b hb
    obtain rfl := i64Of_eq hb
    simp [den] at hy; subst hy
    have : (Builtin.max2 (.int .i64 x) (.int .i64 b)).run c.P w = .ok (.int .i64 (max x b)) w := by
      simp only [Builtin.max2, Sem.run_pure]
      congr 2
      rw [Int.max_def]; split <;> split <;> first | rfl | omega
    simp only [List.foldlM_cons, Sem.run_bind, this, Result.andThen_ok]
    exact foldMax_ok hl e

theorem sliceElem_of {t e : TypeId} (h : sliceElem c.P t = some e) : c.P.underlying t = some (.slice e) := by
  unfold sliceElem at h
  split at h
  · simp at h; subst h; assumption
  · cases h

theorem denL_one {x : SV} {vs : List Value} (h : denL ids [x] = some vs) : ∃ v, den ids x = some v ∧ vs = [v] := by
  obtain ⟨v, m, hx, hm, rfl⟩ := denL_cons h
  simp [denL] at hm; subst hm
  exact ⟨v, hx, rfl⟩

theorem builtinEv_ok {b : Builtin} {ts : Array TypeId} {ty : TypeId} {cs : Array Bool} {l : List SV} {vs : List Value} (hl : denL ids l = some vs) :
    ∀ {e : Ev}, builtinEv c b ts l = e → match e with
      | .ok r => ∃ v, den ids r = some v ∧ (builtin b ts ty cs vs.toArray).run c.P w = .ok (.value v) w
      | .no => True
      | _ => False := by
  intro e he
  unfold builtinEv at he
  split at he
  · obtain ⟨v, hv, rfl⟩ := denL_one hl
    simp [den] at hv; subst hv
    split at he
    · rename_i t ht
      split at he
      · rename_i hu
        subst he
        exact ⟨_, rfl, by simp [builtin, Builtin.len_, ht, run_underlying hu, goInt]⟩
      · subst he; trivial
    · subst he; trivial
  · obtain ⟨v, hv, rfl⟩ := denL_one hl
    simp only [den] at hv
    split at hv
    · simp at hv; subst hv
      split at he
      · rename_i t ht
        split at he
        · rename_i el hel
          subst he
          exact ⟨_, rfl, by simp [builtin, Builtin.len_, ht, run_underlying (sliceElem_of hel), goInt]⟩
        · subst he; trivial
      · subst he; trivial
    · cases hv
  · obtain ⟨v, hv, rfl⟩ := denL_one hl
    simp [den] at hv; subst hv
    split at he
    · rename_i t ht
      split at he
      · rename_i el hel
        subst he
        exact ⟨_, rfl, by simp [builtin, Builtin.len_, ht, run_underlying (sliceElem_of hel), goInt]⟩
      · subst he; trivial
    · subst he; trivial
  · rename_i x r
    obtain ⟨v, m, hx, hm, rfl⟩ := denL_cons hl
    simp [den] at hx; subst hx
    split at he
    · rename_i q hq
      subst he
      exact ⟨_, rfl, by simp [builtin, Builtin.min_, foldMin_ok (c := c) (w := w) hm hq]⟩
    · subst he; trivial
  · rename_i x r
    obtain ⟨v, m, hx, hm, rfl⟩ := denL_cons hl
    simp [den] at hx; subst hx
    split at he
    · rename_i q hq
      subst he
      exact ⟨_, rfl, by simp [builtin, Builtin.max_, foldMax_ok (c := c) (w := w) hm hq]⟩
    · subst he; trivial
  · subst he; trivial

theorem evParts_ok (hF : FrOk c ids fr a) : ∀ {ps : List (Nat × Operand)} {rs : List (Nat × SV)}, evParts fr ps = some rs →
    rs.map (·.1) = (ps.map fun (i, x) => (i, a.eval x)).map (·.1) ∧ denL ids (rs.map (·.2)) = some ((ps.map fun (i, x) => (i, a.eval x)).map (·.2))
  | [], rs, h => by simp [evParts] at h; subst h; exact ⟨rfl, rfl⟩
  | (i, x) :: ps, rs, h => by
    simp only [evParts] at h
    split at h
    · rename_i v hv
      split at h
      · rename_i l hl
        simp at h; subst h
        obtain ⟨h1, h2⟩ := evParts_ok hF hl
        exact ⟨by simpa using h1, denL_mk (ev_ok hF hv) h2⟩
      · cases h
    · cases h

theorem ifaceB_run {t : TypeId} (h : ifaceB c.P t = some false) (x : Value) : (Instr.makeInterface t x).run c.P w = .ok (.iface t x) w := by
  unfold ifaceB at h
  split at h
  · simp at h
  · rename_i d hd hu
    cases d <;> simp [Instr.makeInterface, run_underlying hu]
    exact absurd rfl (hd _)
  · cases h

theorem execOp_pure {o : Oper} {x : Value} {e : Ev} (hs : execOp a.eval o = pure (.value x)) (h : ∀ r, e = .ok r → den ids r = some x) (hn : ∀ r, e ≠ .ok r → e = .no) : PureOk c ids w a o e := by
  cases e with
  | ok r => exact ⟨x, h r rfl, by rw [hs]; rfl⟩
  | no => trivial
  | must b r => exact absurd (hn .undef (by simp)) (by simp)
  | pick b r s => exact absurd (hn .undef (by simp)) (by simp)
  | ld t r => exact absurd (hn .undef (by simp)) (by simp)

/-- THE PURE OPERATIONS. -/
theorem pureEv_ok' {o : Oper} (hI : ∀ t a, o.op = .load t a → Inv c w ids mem) (hF : FrOk c ids fr a) : PureOk c ids w a o (pureEv c fr mem o.op) := by
  obtain ⟨dst, op, ty, pos, after, guard⟩ := o
  dsimp only
  unfold pureEv
  split
  · refine PureOk.of_opt fun x hx => ⟨_, ev_ok hF hx, by simp [execOp]⟩
  · refine PureOk.of_opt fun x hx => ⟨_, ev_ok hF hx, by simp [execOp]⟩
  · rename_i x p q
    split
    · rename_i hx
      have hv := ev_ok hF hx
      simp [den] at hv
      refine PureOk.of_opt fun r hr => ⟨_, ev_ok hF hr, by simp [execOp, ← hv, asBool]⟩
    · rename_i hx
      have hv := ev_ok hF hx
      simp [den] at hv
      refine PureOk.of_opt fun r hr => ⟨_, ev_ok hF hr, by simp [execOp, ← hv, asBool]⟩
    · rename_i t hx
      have hv := ev_ok hF hx
      simp [den] at hv
      split
      · rename_i va vb ha hb
        exact ⟨_, _, ev_ok hF ha, ev_ok hF hb, by simp [execOp, ← hv, asBool]⟩
      · trivial
    · trivial
  · rename_i x
    split
    · rename_i i o hx
      have hv := ev_ok hF hx
      obtain ⟨n, hn, e⟩ := ptr_den hv
      exact ⟨.pointer (some ⟨n, o, none⟩), by simp [den, hn], by simp [execOp, e]⟩
    · rename_i ad hx
      have hv := ev_ok hF hx
      simp [den] at hv
      exact ⟨_, rfl, by simp [execOp, ← hv]⟩
    · trivial
  · rename_i t x
    split
    · rename_i p hp
      exact (loadEv_ok (hI _ _ rfl) (ev_ok hF hp)).pure rfl
    · trivial
  · rename_i op t x y ty'
    split
    · rename_i p q hp hq
      exact (binEv_ok op t x y (ev_ok hF hp) (ev_ok hF hq)).pure rfl
    · trivial
  · rename_i op t x
    split
    · rename_i p hp
      exact (unEv_ok op (ev_ok hF hp)).pure rfl
    · trivial
  · rename_i s x f
    split
    · rename_i p hp
      exact (fieldAddrEv_ok (ev_ok hF hp)).pure rfl
    · trivial
  · rename_i s x f
    split
    · rename_i p hp
      exact (fieldEv_ok (ev_ok hF hp)).pure rfl
    · trivial
  · rename_i t x ix
    split
    · rename_i p q hp hq
      exact (indexAddrEv_ok (ev_ok hF hp) (ev_ok hF hq)).pure rfl
    · trivial
  · rename_i t x ix
    split
    · rename_i p q hp hq
      exact (indexEv_ok (ev_ok hF hp) (ev_ok hF hq)).pure rfl
    · trivial
  · rename_i x i
    split
    · rename_i vs hx
      have hv := ev_ok hF hx
      simp only [den] at hv
      split at hv
      · rename_i l hl
        simp at hv
        refine PureOk.of_opt fun r hr => ?_
        obtain ⟨v, hv1, hv2⟩ := denL_nth hl hr
        exact ⟨v, hv1, by simp [execOp, ← hv, Instr.extract, hv2]⟩
      · cases hv
    · trivial
  · rename_i t parts
    split
    · rename_i ps hps
      refine PureOk.of_opt fun r hr => ?_
      obtain ⟨h1, h2⟩ := evParts_ok hF hps
      obtain ⟨v, hv, hrun⟩ := build_ok (c := c) (w := w) h1 h2 hr
      refine ⟨v, hv, ?_⟩
      have e : (parts.toList.map fun (i, x) => (i, a.eval x)).toArray = parts.map fun (i, x) => (i, a.eval x) := by
        apply Array.ext'; simp
      rw [e] at hrun
      simp [execOp, hrun]
    · trivial
  · rename_i t x
    split
    · rename_i v h1 h2
      exact ⟨.iface t (a.eval x), by simp [den, ev_ok hF h2], by simp [execOp, ifaceB_run h1]⟩
    · trivial
  · rename_i f first captured
    split
    · rename_i p q hp hq
      refine ⟨.func f (first.map a.eval) (captured.map a.eval), ?_, by simp [execOp, Instr.makeFunc]⟩
      have h1 := evL_ok hF hp
      have h2 := evL_ok hF hq
      simp only [den, h1, h2]
      congr 2 <;> (apply Array.ext'; simp)
    · trivial
  · rename_i src dst' x
    split
    · rename_i k k' n h1 h2 h3
      have hv := ev_ok hF h3
      simp [den] at hv
      have hu : c.P.underlying dst' = some (.int k) := by
        unfold intB at h2
        split at h2
        · simp at h2; subst h2; assumption
        · cases h2
      obtain ⟨d, hd⟩ : ∃ d, c.P.underlying src = some d := by
        cases hs : c.P.underlying src with
        | none => simp [aggB, hs] at h1
        | some d => exact ⟨d, rfl⟩
      refine ⟨_, rfl, ?_⟩
      simp only [execOp, ← hv, convert, Sem.run_bind, run_underlying hd, run_underlying hu, Result.andThen_ok, Conv.intToInt, Sem.run_pure]
    · trivial
  · rename_i b args ts
    split
    · rename_i l hl
      have h := builtinEv_ok (c := c) (w := w) (b := b) (ts := ts) (ty := ty) (cs := args.map fun | .const _ => true | _ => false) (evL_ok hF hl) rfl
      have e : execOp a.eval ⟨dst, .call { callee := .builtin b, args := args, argTypes := ts }, ty, pos, after, guard⟩ = builtin b ts ty (args.map fun | .const _ => true | _ => false) (args.toList.map a.eval).toArray := by
        show builtin b ts ty _ _ = _
        congr 1; apply Array.ext'; simp
      generalize builtinEv c b ts l = ev at h ⊢
      cases ev with
      | ok r => obtain ⟨v, hv, hr⟩ := h; exact ⟨v, hv, by rw [e]; exact hr⟩
      | no => trivial
      | must _ _ => exact h.elim
      | pick _ _ _ => exact h.elim
      | ld _ _ => exact h.elim
    · trivial
  · trivial
end

theorem isLoad_of {o : Op} {t : TypeId} {a : Operand} (h : o = .load t a) : isLoad o = true := by subst h; rfl
theorem pureEv_ok {c : Ctx} {ids : List Nat} {w : World} {a : Act} {fr : Fr} {mem : Mem} (hI : Inv c w ids mem) (hF : FrOk c ids fr a) (o : Oper) : PureOk c ids w a o (pureEv c fr mem o.op) := pureEv_ok' (fun _ _ _ => hI) hF
theorem PureOk.tame {c : Ctx} {ids : List Nat} {w : World} {a : Act} {o : Oper} {b : Bool} {e : Ev} (h : PureOk c ids w a o e) : PureOk c ids w a o (tame b e) := by
  unfold Proofs.YtglafgpjgkphkaaGreatDoor.tame
  split
  · trivial
  · exact h

mutual
theorem forceSV_eq {α : Type} : ∀ (x : SV) (k : SV → α), forceSV x k = k x
  | .res r, k => by simp only [forceSV]
  | .lit true, k => by simp only [forceSV]
  | .lit false, k => by simp only [forceSV]
  | .bool b, k => by simp only [forceSV]
  | .int i n, k => by simp only [forceSV]
  | .str s, k => by simp only [forceSV]
  | .ptr i o, k => by simp only [forceSV, forceNat_eq]
  | .nilp, k => by simp only [forceSV]
  | .undef, k => by simp only [forceSV]
  | .agg cs, k => by simp only [forceSV, forceL_eq cs]
  | .tup cs, k => by simp only [forceSV, forceL_eq cs]
  | .sl i o n m, k => by simp only [forceSV, forceNat_eq]
  | .iface t x, k => by simp only [forceSV, forceSV_eq x]
  | .fn f a b, k => by simp only [forceSV, forceL_eq a, forceL_eq b]
  | .raw v, k => by simp only [forceSV]
theorem forceL_eq {α : Type} : ∀ (x : List SV) (k : List SV → α), forceL x k = k x
  | [], k => by simp only [forceL]
  | x :: xs, k => by simp only [forceL, forceSV_eq x, forceL_eq xs]
end
theorem forceMem_eq {α : Type} : ∀ (m : Mem) (k : Mem → α), forceMem m k = k m
  | [], k => rfl
  | ⟨t, cs, true⟩ :: r, k => by simp only [forceMem, forceL_eq, forceMem_eq r]
  | ⟨t, cs, false⟩ :: r, k => by simp only [forceMem, forceL_eq, forceMem_eq r]
theorem keepRK_eq {α : Type} (rc : List Nat) : ∀ (rs : List Rec) (k : List Rec → α), keepRK rc rs k = k (keepR rc rs)
  | [], k => rfl
  | r :: rs, k => by
    simp only [keepRK, keepR]
    cases memN rc r.i with
    | true => exact keepRK_eq rc rs _
    | false => exact keepRK_eq rc rs _

/-! ### What is owed of a tree -/
def SExit.out : SExit → Exit
  | .normal => .normal
  | .exit i => .exit i
  | .ret => .ret

def sat (c : Ctx) (Q : SExit → Fr → Mem → List Nat → World → Prop) : Tree → List Nat → Prop
  | .fin x fr mem, ids => ∀ ids' w, ids <+: ids' → Inv c w ids' mem → Q x fr mem ids' w
  | .br b t f, ids => (b = true → sat c Q t ids) ∧ (b = false → sat c Q f ids)
  | .both t f, ids => sat c Q t ids ∧ sat c Q f ids
  | .must b t, ids => b = true ∧ sat c Q t ids
  | .chk b t, ids => b = true ∧ sat c Q t ids
  | .ld t ad mem k, ids => ∃ r, (∀ ids' w, ids <+: ids' → Inv c w ids' mem → ∃ v, den ids' r = some v ∧ (loadVar t ad).run c.P w = .ok v w) ∧ sat c Q (k r) ids
  | .call f args mem k, ids => ∀ ids' w vs, ids <+: ids' → Inv c w ids' mem → denL ids' args = some vs →
      Calls c.P f vs.toArray w (fun e w2 => ∃ r v mem2 ids2, e = .returned v ∧ den ids2 r = some v ∧ ids' <+: ids2 ∧ Inv c w2 ids2 mem2 ∧ sat c Q (k r mem2) ids2)
  | .same x y t, ids => x = y ∧ sat c Q t ids
  | .op o fr mem k, ids => ∀ ids' w a QE, ids <+: ids' → Inv c w ids' mem → FrOk c ids' fr a →
      o.wp c.P a w (fun a2 w2 => ∃ r v mem2 ids2, a2 = a.put o.dst v ∧ den ids2 r = some v ∧ ids' <+: ids2 ∧ Inv c w2 ids2 mem2 ∧ sat c Q (k r mem2) ids2) QE
  | .region id ops fr mem k, ids => ∀ ids' w a, ids <+: ids' → Inv c w ids' mem → FrOk c ids' fr a →
      (Code.region id ops true).wp c.P (fun e a2 w2 => e = .normal ∧ ∃ fr2 mem2 ids2, ids' <+: ids2 ∧ FrOk c ids2 fr2 a2 ∧ Inv c w2 ids2 mem2 ∧ sat c Q (k fr2 mem2) ids2) a w
  | .loop body fr mem k, ids => ∀ ids' w a, ids <+: ids' → Inv c w ids' mem → FrOk c ids' fr a →
      (Code.loop body).wp c.P (fun e a2 w2 => ∃ x fr2 mem2 ids2, e = x.out ∧ ids' <+: ids2 ∧ FrOk c ids2 fr2 a2 ∧ Inv c w2 ids2 mem2 ∧ sat c Q (k x fr2 mem2) ids2) a w
  | .stuck _, _ => False

section
variable {c : Ctx} {Q : SExit → Fr → Mem → List Nat → World → Prop} {ids ids1 : List Nat} {w : World} {a : Act} {fr : Fr} {mem : Mem}

theorem setCells_eq {cs : List SV} : ∀ {mem : Mem} {i : Nat} {b : SBlk}, nth mem i = some b → setCells mem i cs = setNth mem i { b with cells := cs }
  | [], _, _, h => by simp [nth] at h
  | ⟨t, c0, rw⟩ :: xs, 0, b, h => by simp [nth] at h; subst h; rfl
  | x :: xs, n + 1, b, h => by
    have := setCells_eq (cs := cs) (mem := xs) (i := n) (b := b) h
    simp only [setCells, setNth, this]

/-! ### Writing and making memory -/
theorem Inv.store (hI : Inv c w ids mem) {t : TypeId} {x y : SV} {vx vy : Value} (hx : den ids x = some vx) (hy : den ids y = some vy) {mem' : Mem} (h : storeEv c mem t x y = some mem') :
    ∃ w', (Instr.storeAt t vx vy).run c.P w = .ok () w' ∧ Inv c w' ids mem' := by
  unfold storeEv at h
  split at h
  · rename_i i o
    obtain ⟨n, hn, rfl⟩ := ptr_den hx
    split at h
    · rename_i b hb
      split at h
      · rename_i xs k hrw hc hs
        split at h
        · rename_i hlen
          split at h
          · rename_i cs ho
            obtain ⟨hb1, hb2⟩ := blkAt_eq hb
            rw [setCells_eq hb1] at h
            simp at h; subst h
            obtain ⟨n', l, hn', hl, hblk⟩ := hI.blk _ _ hb1 hb2
            rw [hn] at hn'; simp at hn'; subst hn'
            obtain ⟨hd, h1⟩ := cells1_den hc hy
            obtain ⟨ho1, ho2⟩ := denL_overwrite hl hd ho
            have hsz : vy.cells.size = k := by
              have := denL_len hd
              have := Nat.eq_of_beq_eq_true hlen
              simp at *; omega
            have hrun := run_storeCells_at (P := c.P) n o b.ty vy.cells.toList 0 l.toArray w hblk (by simpa using ho2) h1
            refine ⟨_, by simp [Instr.storeAt, Instr.sureAddr, storeVar, sizeB_run hs, hsz]; exact hrun, ?_⟩
            generalize hrow : ((l.toArray.toList.take (o + 0) ++ vy.cells.toList ++ l.toArray.toList.drop (o + 0 + vy.cells.toList.length)).toArray) = row
            have hother : ∀ m, m ≠ n → (w.setRow n row).heap[m]? = w.heap[m]? := fun m hm => setRow_other w n m row hm
            have hown := hI.own _ _ hb1 hrw n (by rw [fpOf_cells hb2 hn]; simp)
            have hf : Frm [n] w (w.setRow n row) := ⟨rfl, rfl, rfl, by simp, fun m _ hm => hother m (by simpa using hm), Nat.le_refl _⟩
            refine hI.step hf (by simpa using hown) (by simp [setNth_len]) ?_ ?_
            · intro j b' hj
              rw [nth_setNth] at hj
              split at hj
              · rename_i hij
                subst hij
                rw [if_pos (nth_lt hb1)] at hj
                simp at hj; subst hj
                have hg : Good (w.setRow n row) ids i { b with cells := cs } := by
                  refine .mk hn ho1 ?_
                  have := setRow_heap w n l.toArray row b.ty (0, 0) hblk
                  rw [← hrow] at this ⊢
                  simpa [Blk] using this
                refine ⟨b, hb1, rfl, ?_, .inr hg⟩
                rw [fpOf_cells (resOf_cells (b := { b with cells := cs }) ho1) hn, fpOf_cells hb2 hn]
                exact fun x hx => .inl hx
              · rename_i hij
                refine ⟨b', hj, rfl, fun x hx => .inl hx, .inl ⟨rfl, fun x hx => ?_⟩⟩
                have := hI.apart j i b' b hj hb1 (Ne.symm hij) x hx
                rwa [fpOf_cells hb2 hn] at this
            · intro j k bj bk hj hk hjk x hx hxs
              have : x < w.heap.size := by
                rw [nth_setNth] at hj
                split at hj
                · rename_i hij
                  subst hij
                  rw [if_pos (nth_lt hb1)] at hj
                  simp at hj; subst hj
                  rw [fpOf_cells (resOf_cells (b := { b with cells := cs }) ho1) hn] at hx
                  simp at hx; subst hx
                  exact hblk.lt
                · exact (hI.good j bj hj).lt x hx
              omega
          · cases h
        · cases h
      · cases h
    · cases h
  · cases h

/-- Behind a call that has written nothing that was there. -/
theorem Inv.same (hI : Inv c w ids mem) {w' : World} (hf : Frm [] w w') : Inv c w' ids mem :=
  hI.step hf (by simp) rfl (fun i b hb => ⟨b, hb, rfl, fun x hx => .inl hx, .inl ⟨rfl, fun _ _ => by simp⟩⟩) (fun i j bi bj hi hj hij x hx hs => by have := (hI.good i bi hi).lt x hx; omega)
/-- Behind a call that has written one of the blocks. -/
theorem Inv.upd (hI : Inv c w ids mem) {w' : World} (i : Nat) {b : SBlk} {n : Nat} {cs : List SV} {l : List Value} (hb : nth mem i = some b) (hn : ids[i]? = some n) (hrw : wrB b = true) (hd : denL ids cs = some l)
    (hf : Frm [n] w w') (hw : Blk w' n l.toArray b.ty) : Inv c w' ids (setNth mem i { b with cells := cs }) := by
  obtain ⟨hrw, hr⟩ := wrB_eq hrw
  have hown := hI.own _ _ hb hrw n (by rw [fpOf_cells hr hn]; simp)
  have hr' : resOf { b with cells := cs } = none := resOf_cells hd
  have hat : ∀ j b', nth (setNth mem i { b with cells := cs }) j = some b' → (j = i ∧ b' = { b with cells := cs }) ∨ (j ≠ i ∧ nth mem j = some b') := by
    intro j b' hj
    rw [nth_setNth] at hj
    split at hj
    · rename_i hij
      rw [if_pos (nth_lt hb)] at hj
      exact .inl ⟨hij.symm, by simpa using hj.symm⟩
    · rename_i hij; exact .inr ⟨fun e => hij e.symm, hj⟩
  refine hI.step hf (by simpa using hown) (by simp [setNth_len]) ?_ ?_
  · intro j b' hj
    rcases hat j b' hj with ⟨rfl, rfl⟩ | ⟨hij, hj⟩
    · refine ⟨b, hb, rfl, ?_, .inr (.mk hn hd hw)⟩
      rw [fpOf_cells hr' hn, fpOf_cells hr hn]
      exact fun x hx => .inl hx
    · refine ⟨b', hj, rfl, fun x hx => .inl hx, .inl ⟨rfl, fun x hx => ?_⟩⟩
      have := hI.apart j i b' b hj hb hij x hx
      rwa [fpOf_cells hr hn] at this
  · intro j k bj bk hj hk hjk x hx hxs
    rcases hat j bj hj with ⟨rfl, rfl⟩ | ⟨hij, hj⟩
    · rw [fpOf_cells hr' hn] at hx
      have := (hI.good j b hb).lt x (by rw [fpOf_cells hr hn]; exact hx)
      omega
    · have := (hI.good j bj hj).lt x hx
      omega

/-- A new block. -/
theorem Inv.new (hI : Inv c w ids mem) {t : TypeId} {x : SV} {v : Value} (hx : den ids x = some v) {mem' : Mem} (h : boxEv mem t x = some mem') :
    Inv c (w.alloc (.cells v.cells t)) (ids ++ [w.heap.size]) mem' ∧ den (ids ++ [w.heap.size]) (.ptr mem.length 0) = some (.pointer (some ⟨w.heap.size, 0, none⟩)) := by
  unfold boxEv at h
  split at h
  · rename_i xs hc
    simp at h; subst h
    obtain ⟨hd, h1⟩ := cells1_den hc hx
    refine ⟨hI.adds ((Frm.refl [] w).alloc _) [w.heap.size] [_] rfl (by simp) (by simp) ?_, by simp [den, ← hI.len]⟩
    intro i b n hb hn
    cases i with
    | zero =>
      simp [nth] at hb hn
      subst hb; subst hn
      exact ⟨_, denL_mono (List.prefix_append _ _) _ _ hd, by simpa using Blk.new w v.cells t⟩
    | succ i => simp [nth] at hb
  · cases h

theorem calleeOk_run {g : FuncId} (h : calleeOk c.P g = true) (args : Array Value) : (callFunc g args).run c.P w = .ok (.enter g args) w := by
  unfold calleeOk at h
  split at h
  · rename_i fn hf
    simp only [Bool.and_eq_true, Bool.not_eq_true'] at h
    obtain ⟨hn, hb⟩ := h
    have hn' : ¬ fn.name = "runtime.NumGoroutine" := by simpa using hn
    have hb' : ¬ fn.body = none := by cases hx : fn.body <;> simp_all
    simp [callFunc, hf, hn', hb']
  · cases h

/-- The end of an operation that was reckoned. -/
def OpEnd (c : Ctx) (Q : SExit → Fr → Mem → List Nat → World → Prop) (ids ids1 : List Nat) (a : Act) (dst : Option Tmp) (k : SV → Mem → Tree) (a2 : Act) (w2 : World) : Prop :=
  ∃ r v mem2 ids2 idsk, a2 = a.put dst v ∧ den ids2 r = some v ∧ ids1 <+: ids2 ∧ idsk <+: ids2 ∧ Inv c w2 ids2 mem2 ∧ sat c Q (k r mem2) idsk ∧ ids <+: idsk

theorem Oper.wp_value {P : Program} {o : Oper} {a : Act} {w w' : World} {K : Act → World → Prop} {QE : Exit → Act → World → Prop} {v : Value} (h : (execOp a.eval o).run P w = .ok (.value v) w') (hk : K (a.put o.dst v) w') : o.wp P a w K QE := by
  unfold Go.Oper.wp; rw [h]; exact hk

theorem stepEv_ok (hp : ids <+: ids1) (hI : Inv c w ids1 mem) {o : Oper} {e : Ev} (he : PureOk c ids1 w a o e) {k : SV → Tree} {no : Tree} {K : SV → Value → Prop}
    (h : sat c Q (stepEv e mem k no) ids) (hok : ∀ r v, den ids1 r = some v → sat c Q (k r) ids → K r v) :
    (∃ r v, (execOp a.eval o).run c.P w = .ok (.value v) w ∧ K r v) ∨ sat c Q no ids := by
  unfold stepEv at h
  split at h
  · obtain ⟨v, hv, hr⟩ := he
    exact .inl ⟨_, v, hr, hok _ v hv h⟩
  · simp only [sat] at h
    obtain ⟨v, hv, hr⟩ := he h.1
    exact .inl ⟨_, v, hr, hok _ v hv h.2⟩
  · rename_i b x y
    simp only [sat] at h
    obtain ⟨vx, vy, hx, hy, hr⟩ := he
    cases b with
    | true => exact .inl ⟨_, _, by simpa using hr, hok _ _ hx (h.1 rfl)⟩
    | false => exact .inl ⟨_, _, by simpa using hr, hok _ _ hy (h.2 rfl)⟩
  · simp only [sat] at h
    obtain ⟨r, hr, hs⟩ := h
    obtain ⟨v, hv, hl⟩ := hr ids1 w hp hI
    exact .inl ⟨r, v, he v hl, hok r v hv hs⟩
  · exact .inr h

theorem doOp_ok (hp : ids <+: ids1) (hI : Inv c w ids1 mem) (hF : FrOk c ids1 fr a) {o : Oper} {k : SV → Mem → Tree} {QE : Exit → Act → World → Prop}
    (h : sat c Q (doOp c fr mem o k) ids) : o.wp c.P a w (OpEnd c Q ids ids1 a o.dst k) QE := by
  have fall : sat c Q (.op o fr mem k) ids → o.wp c.P a w (OpEnd c Q ids ids1 a o.dst k) QE := by
    intro h
    simp only [sat] at h
    refine Oper.wp_mono ?_ (h ids1 w a QE hp hI hF)
    rintro a2 w2 ⟨r, v, mem2, ids2, h1, h2, h3, h4, h5⟩
    exact ⟨r, v, mem2, ids2, ids2, h1, h2, h3, List.prefix_refl _, h4, h5, hp.trans h3⟩
  obtain ⟨dst, op, ty, pos, after, guard⟩ := o
  unfold doOp at h
  simp only [forceMem_eq, forceL_eq] at h
  split at h
  · rename_i t x y
    split at h
    · rename_i p q hx hy
      split at h
      · rename_i mem' hs
        obtain ⟨w', hrun, hI'⟩ := hI.store (ev_ok hF hx) (ev_ok hF hy) hs
        unfold Go.Oper.wp
        rw [show (execOp a.eval ⟨dst, .store t x y, ty, pos, after, guard⟩).run c.P w = .ok .skip w' by simp [execOp, hrun]]
        exact ⟨.undef, Go.undef, mem', ids1, ids, rfl, rfl, List.prefix_refl _, hp, hI', h, List.prefix_refl _⟩
      · exact fall h
    · exact fall h
  · rename_i t
    split at h
    · rename_i z hz
      split at h
      · rename_i mem' hb
        obtain ⟨it, zv, hit, hzero, hdz⟩ := zeroSV_ok (ids := ids1) hz
        obtain ⟨hI', hd'⟩ := hI.new hdz hb
        refine Oper.wp_value (v := .pointer (some ⟨w.heap.size, 0, none⟩)) (w' := w.alloc (.cells zv.cells t)) ?_ ⟨_, _, _, _, ids, rfl, hd', List.prefix_append _ _, hp.trans (List.prefix_append _ _), hI', h, List.prefix_refl _⟩
        simp [execOp, Instr.alloc, zeroValue, typeInfo, hit, hzero, newVar, newRow]
      · exact fall h
    · exact fall h
  · rename_i t x
    split at h
    · rename_i v hx
      split at h
      · rename_i mem' hb
        obtain ⟨hI', hd'⟩ := hI.new (ev_ok hF hx) hb
        refine Oper.wp_value (v := .pointer (some ⟨w.heap.size, 0, none⟩)) (w' := w.alloc (.cells (a.eval x).cells t)) ?_ ⟨_, _, _, _, ids, rfl, hd', List.prefix_append _ _, hp.trans (List.prefix_append _ _), hI', h, List.prefix_refl _⟩
        simp [execOp, Instr.box, newVar, newRow]
      · exact fall h
    · exact fall h
  · rename_i f args ts
    split at h
    · rename_i g first captured l hf hl
      split at h
      · rename_i hc
        simp only [sat] at h
        have h1 := ev_ok hF hf
        have h2 := evL_ok hF hl
        simp only [den] at h1
        split at h1
        · rename_i va vb ha hb
          simp at h1
          have h3 := denL_append (denL_append ha h2) hb
          have hcall := h ids1 w _ hp hI h3
          unfold Go.Oper.wp
          have hrun : (execOp a.eval ⟨dst, .call { callee := .value f, args := args, argTypes := ts }, ty, pos, after, guard⟩).run c.P w = .ok (.enter g (va ++ args.toList.map a.eval ++ vb).toArray) w := by
            simp only [execOp, resolve, ← h1, Deferred.ofValue, Sem.run_bind, Sem.run_pure, Result.andThen_ok, invoke, calleeOk_run hc]
            congr 2
            apply Array.ext'; simp
          rw [hrun]
          show Calls _ _ _ _ _
          refine hcall.mono ?_
          rintro e w2 ⟨r, v, mem2, ids2, rfl, hv, hp2, hI2, hs⟩
          exact ⟨r, v, mem2, ids2, ids2, rfl, hv, hp2, List.prefix_refl _, hI2, hs, hp.trans hp2⟩
        · cases h1
      · exact fall h
    · exact fall h
  · have he := pureEv_ok hI hF ⟨dst, op, ty, pos, after, guard⟩
    rcases stepEv_ok (K := fun r v => den ids1 r = some v ∧ sat c Q (k r mem) ids) hp hI he h (fun r v hv hs => ⟨hv, hs⟩) with ⟨r, v, hr, hv, hs⟩ | hs
    · exact Oper.wp_value hr ⟨r, v, mem, ids1, ids, rfl, hv, List.prefix_refl _, hp, hI, hs, List.prefix_refl _⟩
    · exact fall hs

/-! ### Guards, slots -/
theorem getD_some {t : Array Value} {d : Nat} {b : Bool} (h : t.getD d Go.undef = .bool b) : t[d]? = some (.bool b) := by
  rw [Array.getD_eq_getD_getElem?] at h
  cases hx : t[d]? with
  | none => rw [hx] at h; simp [Go.undef] at h
  | some v => rw [hx] at h; simp at h; rw [h]

theorem guardK_ok (hF : FrOk c ids1 fr a) {ops : List Oper} {o : Oper} {yes no : Fr → Tree} (h : sat c Q (guardK ops fr o.guard yes no) ids) :
    (Region.wanted o (yielded ops.toArray a.tmps) = true ∧ ∃ fr', FrOk c ids1 fr' a ∧ sat c Q (yes fr') ids) ∨
    (Region.wanted o (yielded ops.toArray a.tmps) = false ∧ ∃ fr', FrOk c ids1 fr' a ∧ sat c Q (no fr') ids) := by
  unfold guardK at h
  split at h
  · rename_i hg
    exact .inl ⟨by simp [Region.wanted, hg], fr, hF, h⟩
  · rename_i j want hg
    split at h
    · exact h.elim
    · rename_i oj hj
      split at h
      · exact h.elim
      · rename_i d hd
        have hy : ∀ r, (a.tmps[d]? = some r ∨ a.tmps[d]? = none ∧ r = Go.undef) → Region.wanted o (yielded ops.toArray a.tmps) = (match r with | .bool b => some b == some want | _ => false) := by
          intro r hr
          rw [nth_eq] at hj
          simp only [Region.wanted, hg, yielded, List.getElem?_toArray, hj, Option.bind_some, hd]
          rcases hr with hr | ⟨hr, rfl⟩
          · rw [hr]; cases r <;> simp
          · rw [hr]; simp [Go.undef]
        split at h
        · exact h.elim
        · rename_i hh
          have hat := hF.at_ d hh
          split at h
          · rename_i hl
            rw [hl] at hat
            simp [den] at hat
            have hw := hy _ (.inl (getD_some (by simpa using hat.symm)))
            split at h
            · exact .inl ⟨by rw [hw]; rfl, fr, hF, h⟩
            · exact .inr ⟨by rw [hw]; rfl, fr, hF, h⟩
          · rename_i hl
            rw [hl] at hat
            simp [den] at hat
            have hw := hy _ (.inl (getD_some (by simpa using hat.symm)))
            split at h
            · exact .inr ⟨by rw [hw]; rfl, fr, hF, h⟩
            · exact .inl ⟨by rw [hw]; rfl, fr, hF, h⟩
          · rename_i hl
            rw [hl] at hat
            simp only [den, Option.some.injEq] at hat
            have hw := hy Go.undef (by
              rw [Array.getD_eq_getD_getElem?] at hat
              cases hx : a.tmps[d]? with
              | none => exact .inr ⟨rfl, rfl⟩
              | some v => rw [hx] at hat; simp at hat; rw [hat]; exact .inl rfl)
            exact .inr ⟨by rw [hw]; rfl, fr, hF, h⟩
          · rename_i b hl
            rw [hl] at hat
            simp [den] at hat
            have hw := hy _ (.inl (getD_some (by simpa using hat.symm)))
            split at h <;> simp only [sat] at h <;> cases b
            · exact .inr ⟨by rw [hw]; rfl, _, hF.know hh hl rfl, h.2 rfl⟩
            · exact .inl ⟨by rw [hw]; rfl, _, hF.know hh hl rfl, h.1 rfl⟩
            · exact .inl ⟨by rw [hw]; rfl, _, hF.know hh hl rfl, h.2 rfl⟩
            · exact .inr ⟨by rw [hw]; rfl, _, hF.know hh hl rfl, h.1 rfl⟩
          · exact h.elim

theorem putK_ok (hF : FrOk c ids1 fr a) {dst : Option Tmp} {r : SV} {v : Value} (hv : den ids1 r = some v) {k : Fr → Tree} (h : sat c Q (putK c dst r fr k) ids) :
    ∃ fr', FrOk c ids1 fr' (a.put dst v) ∧ sat c Q (k fr') ids := by
  unfold putK at h
  simp only [forceSV_eq] at h
  split at h
  · exact ⟨fr, hF, h⟩
  · rename_i d
    split at h
    · rename_i hd
      have hd' : d < c.N := by
        have := hd
        simp only [Nat.blt] at this
        exact Nat.le_of_ble_eq_true this
      exact ⟨_, hF.put hd' hv, h⟩
    · exact h.elim

/-! ### Regions -/
theorem execOps_ok {ids0 : List Nat} {ops : List Oper} {k : Fr → Mem → Tree} {QR : Exit → Act → World → Prop}
    (hk : ∀ fr' mem' idsk ids2 a' w', ids0 <+: idsk → sat c Q (k fr' mem') idsk → idsk <+: ids2 → FrOk c ids2 fr' a' → Inv c w' ids2 mem' → QR .normal a' w') :
    ∀ (rest : List Oper) (fr : Fr) (mem : Mem) (ids ids1 : List Nat) (a : Act) (w : World), ids0 <+: ids → ids <+: ids1 → Inv c w ids1 mem → FrOk c ids1 fr a →
      sat c Q (execOps c ops rest fr mem k) ids → wpList c.P ops.toArray QR rest a w
  | [], fr, mem, ids, ids1, a, w, h0, hp, hI, hF, h => hk _ _ _ _ _ _ h0 h hp hF hI
  | o :: rest, fr, mem, ids, ids1, a, w, h0, hp, hI, hF, h => by
    simp only [execOps] at h
    unfold wpList
    rcases guardK_ok hF h with ⟨hw, fr', hF', hs⟩ | ⟨hw, fr', hF', hs⟩
    · rw [if_pos hw]
      refine .inl (Oper.wp_mono ?_ (doOp_ok (QE := QR) hp hI hF' hs))
      rintro a2 w2 ⟨r, v, mem2, ids2, idsk, rfl, hv, hp2, hpk, hI2, hs2, hpi⟩
      obtain ⟨fr2, hF2, hs3⟩ := putK_ok (hF'.mono hp2) hv hs2
      exact execOps_ok hk rest fr2 mem2 idsk ids2 _ w2 (h0.trans hpi) hpk hI2 hF2 hs3
    · rw [if_neg (by simp [hw])]
      obtain ⟨fr2, hF2, hs3⟩ := putK_ok (r := .undef) (v := Go.undef) hF' rfl hs
      exact execOps_ok hk rest fr2 mem ids ids1 _ w h0 hp hI hF2 hs3

theorem stepQ_ok (hp : ids <+: ids1) (hI : Inv c w ids1 mem) {o : Oper} {b : Bool} {e : Ev} (he : ∀ w, (b = true → Inv c w ids1 mem) → PureOk c ids1 w a o e) {k : SV → Tree} {why : String}
    (h : sat c Q (stepEv (tame b e) mem k (.stuck why)) ids) :
    ∃ r v, den ids1 r = some v ∧ (∀ w, (b = true → Inv c w ids1 mem) → (execOp a.eval o).run c.P w = .ok (.value v) w) ∧ sat c Q (k r) ids := by
  have he' : ∀ w, (b = true → Inv c w ids1 mem) → PureOk c ids1 w a o (tame b e) := fun w hh => (he w hh).tame
  have hb : ∀ t ad, tame b e = .ld t ad → b = true := by
    intro t ad hh
    cases b with
    | true => rfl
    | false => unfold tame at hh; cases e <;> simp at hh
  generalize tame b e = e at h he' hb
  unfold stepEv at h
  split at h
  · obtain ⟨v, hv, _⟩ := he' w (fun _ => hI)
    refine ⟨_, v, hv, fun w' hI' => ?_, h⟩
    obtain ⟨v', hv', hr'⟩ := he' w' hI'
    rw [hv] at hv'; simp at hv'; rw [hv']; exact hr'
  · simp only [sat] at h
    obtain ⟨v, hv, _⟩ := he' w (fun _ => hI) h.1
    refine ⟨_, v, hv, fun w' hI' => ?_, h.2⟩
    obtain ⟨v', hv', hr'⟩ := he' w' hI' h.1
    rw [hv] at hv'; simp at hv'; rw [hv']; exact hr'
  · rename_i b' x y
    simp only [sat] at h
    obtain ⟨vx, vy, hx, hy, _⟩ := he' w (fun _ => hI)
    cases b' with
    | true =>
      refine ⟨x, vx, hx, fun w' hI' => ?_, h.1 rfl⟩
      obtain ⟨vx', vy', hx', _, hr'⟩ := he' w' hI'
      rw [hx] at hx'; simp at hx'; rw [hx']; simpa using hr'
    | false =>
      refine ⟨y, vy, hy, fun w' hI' => ?_, h.2 rfl⟩
      obtain ⟨vx', vy', _, hy', hr'⟩ := he' w' hI'
      rw [hy] at hy'; simp at hy'; rw [hy']; simpa using hr'
  · simp only [sat] at h
    obtain ⟨r, hr, hs⟩ := h
    obtain ⟨v, hv, _⟩ := hr ids1 w hp hI
    refine ⟨r, v, hv, fun w' hI' => ?_, hs⟩
    have hI2 := hI' (hb _ _ rfl)
    obtain ⟨v', hv', hl'⟩ := hr ids1 w' hp hI2
    rw [hv] at hv'; simp at hv'; subst hv'
    exact he' w' hI' _ hl'
  · exact h.elim

/-- A fact that a load has left. -/
def RecOk (c : Ctx) (ids : List Nat) (r : Rec) (p : Nat × Fact) : Prop :=
  ∃ a v, p = (r.i, fun w => (execOp a.eval r.o).run c.P w = .ok (.value v) w) ∧ FrOk c ids r.fr a ∧ den ids r.r = some v
theorem RecOk.mono {ids ids' : List Nat} (hp : ids <+: ids') {r : Rec} {p : Nat × Fact} (h : RecOk c ids r p) : RecOk c ids' r p := by
  obtain ⟨a, v, h1, h2, h3⟩ := h
  exact ⟨a, v, h1, h2.mono hp, den_mono hp _ _ h3⟩

theorem recheck_ok (hp : ids <+: ids1) (hI : Inv c w ids1 mem) : ∀ (rs : List Rec) {t : Tree}, sat c Q (recheck c mem rs t) ids → (∀ r ∈ rs, ∀ p, RecOk c ids1 r p → p.2 w) ∧ sat c Q t ids
  | [], t, h => ⟨by simp, h⟩
  | r :: rs, t, h => by
    simp only [recheck] at h
    refine ⟨fun r' hr' p hpk => ?_, ?_⟩
    · cases hr' with
      | head =>
        obtain ⟨a, v, rfl, hF, hv⟩ := hpk
        obtain ⟨r2, v2, hv2, hrun, hs⟩ := stepQ_ok (b := isLoad r.o.op) hp hI (fun w' hI' => pureEv_ok' (fun t a hl => hI' (isLoad_of hl)) hF) h
        simp only [sat] at hs
        obtain ⟨rfl, hs⟩ := hs
        rw [hv] at hv2; simp at hv2; subst hv2
        exact hrun w (fun _ => hI)
      | tail _ hr' =>
        unfold stepEv at h
        split at h
        · simp only [sat] at h; exact (recheck_ok hp hI rs h.2).1 _ hr' _ hpk
        · simp only [sat] at h; exact (recheck_ok hp hI rs h.2.2).1 _ hr' _ hpk
        · rename_i b x y _
          simp only [sat] at h
          cases b with
          | true => exact (recheck_ok hp hI rs (h.1 rfl).2).1 _ hr' _ hpk
          | false => exact (recheck_ok hp hI rs (h.2 rfl).2).1 _ hr' _ hpk
        · simp only [sat] at h
          obtain ⟨_, _, _, h⟩ := h
          exact (recheck_ok hp hI rs h).1 _ hr' _ hpk
        · exact h.elim
    · unfold stepEv at h
      split at h
      · simp only [sat] at h; exact (recheck_ok hp hI rs h.2).2
      · simp only [sat] at h; exact (recheck_ok hp hI rs h.2.2).2
      · rename_i b x y _
        simp only [sat] at h
        cases b with
        | true => exact (recheck_ok hp hI rs (h.1 rfl).2).2
        | false => exact (recheck_ok hp hI rs (h.2 rfl).2).2
      · simp only [sat] at h
        obtain ⟨_, _, _, h⟩ := h
        exact (recheck_ok hp hI rs h).2
      · exact h.elim

theorem memN_iff {l : List Nat} {x : Nat} : memN l x = true ↔ x ∈ l := by
  induction l with
  | nil => simp [memN]
  | cons k r ih =>
    simp only [memN]
    cases hb : Nat.beq k x with
    | true => obtain rfl := Nat.eq_of_beq_eq_true hb; simp
    | false =>
      have hne : x ≠ k := fun e => by subst e; simp at hb
      simp [ih, hne]
theorem mem_keepR {rc : List Nat} {r : Rec} : ∀ {rs : List Rec}, r ∈ keepR rc rs ↔ r ∈ rs ∧ r.i ∈ rc
  | [] => by simp [keepR]
  | x :: rs => by
    simp only [keepR]
    cases hb : memN rc x.i with
    | true =>
      have := memN_iff.1 hb
      simp only [List.mem_cons, mem_keepR (rs := rs)]
      constructor
      · rintro (rfl | ⟨h1, h2⟩)
        · exact ⟨.inl rfl, this⟩
        · exact ⟨.inr h1, h2⟩
      · rintro ⟨rfl | h1, h2⟩
        · exact .inl rfl
        · exact .inr ⟨h1, h2⟩
    | false =>
      have : x.i ∉ rc := fun h => by rw [memN_iff.2 h] at hb; cases hb
      simp only [List.mem_cons, mem_keepR (rs := rs)]
      constructor
      · rintro ⟨h1, h2⟩; exact ⟨.inr h1, h2⟩
      · rintro ⟨rfl | h1, h2⟩
        · exact absurd h2 this
        · exact ⟨h1, h2⟩

def OnlyN (QR : Act → World → Prop) : Exit → Act → World → Prop := fun e a w => e = .normal ∧ QR a w

/-- One loud step: what is owed of the operation. -/
theorem stepD_loud {ops : List Oper} {QR : Act → World → Prop} {i n : Nat} {rc : List Nat} {go : Fr → Mem → List Rec → Tree} {o : Oper} {listed : Array Bool} {loads : List Nat} (hi : nth ops i = some o) (hloud : loud o.op = true)
    (hall : (loads.all fun j => dep ops.toArray i j || rc.contains j) = true)
    (hm : ∀ (fl : List (Nat × Fact)) (rs : List Rec) (fr : Fr) (mem : Mem) (ids' ids1 : List Nat) (a : Act) (w : World), (∀ r ∈ rs, r.i ∈ loads.filter rc.contains) → (∀ p ∈ fl, ∃ r ∈ rs, RecOk c ids1 r p) → (∀ p ∈ fl, p.2 w) → ids <+: ids' → ids' <+: ids1 → Inv c w ids1 mem → FrOk c ids1 fr a → sat c Q (go fr mem rs) ids' →
      wpAnyF c.P ops.toArray (OnlyN QR) n fl (listed.setIfInBounds i true) a w)
    {fl : List (Nat × Fact)} {rs : List Rec} {ids1 : List Nat} (hrl : ∀ r ∈ rs, r.i ∈ loads) (hfr : ∀ p ∈ fl, ∃ r ∈ rs, RecOk c ids1 r p) (hfw : ∀ p ∈ fl, p.2 w) (hp : ids <+: ids1) (hI : Inv c w ids1 mem) (hF : FrOk c ids1 fr a) (h : sat c Q (stepD c ops i rc go fr mem rs) ids) :
    wpOp c.P ops.toArray (OnlyN QR) i (fun a' w' => (∀ p ∈ dropDep ops.toArray i fl, p.2 w') ∧ wpAnyF c.P ops.toArray (OnlyN QR) n (dropDep ops.toArray i fl) (listed.setIfInBounds i true) a' w') a w := by
  have hi' : ops.toArray[i]? = some o := by rw [nth_eq] at hi; simpa using hi
  simp only [stepD, keepRK_eq, forceSV_eq, hi, hloud] at h
  have hfl' : ∀ p ∈ dropDep ops.toArray i fl, ∃ r ∈ keepR rc rs, RecOk c ids1 r p := by
    intro p hpf
    obtain ⟨hpf, hnd⟩ := List.mem_filter.1 hpf
    obtain ⟨r, hr, hrk⟩ := hfr p hpf
    refine ⟨r, mem_keepR.2 ⟨hr, ?_⟩, hrk⟩
    have hpi : p.1 = r.i := by obtain ⟨_, _, rfl, _⟩ := hrk; rfl
    have := List.all_eq_true.1 hall r.i (hrl r hr)
    rw [← hpi] at this ⊢
    simp at hnd
    simpa [hnd] using this
  have hloads' : ∀ r ∈ keepR rc rs, r.i ∈ loads.filter rc.contains := by
    intro r hr
    obtain ⟨h1, h2⟩ := mem_keepR.1 hr
    exact List.mem_filter.2 ⟨hrl r h1, by simpa using h2⟩
  unfold wpOp
  simp only [hi']
  rcases guardK_ok hF h with ⟨hw, fr', hF', hs⟩ | ⟨hw, fr', hF', hs⟩
  · rw [if_pos hw]
    refine .inl (Oper.wp_mono ?_ (doOp_ok (QE := OnlyN QR) hp hI hF' hs))
    rintro a2 w2 ⟨r, v, mem2, ids2, idsk, rfl, hv, hp2, hpk, hI2, hs2, hpi⟩
    obtain ⟨fr2, hF2, hs3⟩ := putK_ok (hF'.mono hp2) hv hs2
    obtain ⟨hfacts, hs4⟩ := recheck_ok hpk hI2 _ hs3
    refine ⟨fun p hpf => ?_, hm _ _ fr2 mem2 idsk ids2 _ w2 hloads' (fun p hpf => ?_) (fun p hpf => ?_) hpi hpk hI2 hF2 hs4⟩
    · obtain ⟨r, hr, hrk⟩ := hfl' p hpf
      exact hfacts r hr p (hrk.mono hp2)
    · obtain ⟨r, hr, hrk⟩ := hfl' p hpf
      exact ⟨r, hr, hrk.mono hp2⟩
    · obtain ⟨r, hr, hrk⟩ := hfl' p hpf
      exact hfacts r hr p (hrk.mono hp2)
  · rw [if_neg (by simp [hw])]
    obtain ⟨fr2, hF2, hs3⟩ := putK_ok (r := .undef) (v := Go.undef) hF' rfl hs
    exact ⟨fun p hpf => hfw p (List.mem_filter.1 hpf).1, hm _ _ fr2 mem ids ids1 _ w hloads' hfl' (fun p hpf => hfw p (List.mem_filter.1 hpf).1) (List.prefix_refl _) hp hI hF2 hs3⟩

theorem execD_ok {ids0 : List Nat} {ops : List Oper} (hsel : Region.noSelect ops.toArray = true) {k : Fr → Mem → Tree} {QR : Act → World → Prop}
    (hk : ∀ fr' mem' idsk ids2 a' w', ids0 <+: idsk → sat c Q (k fr' mem') idsk → idsk <+: ids2 → FrOk c ids2 fr' a' → Inv c w' ids2 mem' → QR a' w') :
    ∀ (ord : Odr), (∀ (n : Nat) (listed : Array Bool) (loads : List Nat) (fl : List (Nat × Fact)) (rs : List Rec) (fr : Fr) (mem : Mem) (ids ids1 : List Nat) (a : Act) (w : World),
      ordOk ops.toArray false listed loads ord n = true → Closed ops.toArray listed → (∀ r ∈ rs, r.i ∈ loads) → (∀ p ∈ fl, ∃ r ∈ rs, RecOk c ids1 r p) → (∀ p ∈ fl, p.2 w) →
      ids0 <+: ids → ids <+: ids1 → Inv c w ids1 mem → FrOk c ids1 fr a → sat c Q (execD c ops ord fr mem rs k) ids → wpAnyF c.P ops.toArray (OnlyN QR) n fl listed a w) ∧
     (∀ (n : Nat) (listed : Array Bool) (loads : List Nat) (fl : List (Nat × Fact)) (rs : List Rec) (fr : Fr) (mem : Mem) (ids ids1 : List Nat) (a : Act) (w : World),
      ordOk ops.toArray true listed loads ord (n + 1) = true → Closed ops.toArray listed → (∀ i ∈ heads ord, i ∈ Region.ready .any ops.toArray listed) → (∀ r ∈ rs, r.i ∈ loads) → (∀ p ∈ fl, ∃ r ∈ rs, RecOk c ids1 r p) → (∀ p ∈ fl, p.2 w) →
      ids0 <+: ids → ids <+: ids1 → Inv c w ids1 mem → FrOk c ids1 fr a → sat c Q (execD c ops ord fr mem rs k) ids →
      ∀ i ∈ heads ord, wpOp c.P ops.toArray (OnlyN QR) i (fun a' w' => (∀ p ∈ dropDep ops.toArray i fl, p.2 w') ∧ wpAnyF c.P ops.toArray (OnlyN QR) n (dropDep ops.toArray i fl) (listed.setIfInBounds i true) a' w') a w)
  | .nil => by
    refine ⟨?_, ?_⟩
    · intro n listed loads fl rs fr mem ids ids1 a w ho hc hrl hfr hfw h0 hp hI hF h
      simp only [ordOk, Bool.and_eq_true] at ho
      obtain rfl := Nat.eq_of_beq_eq_true ho.1.2
      exact ⟨by simpa using ho.2, rfl, hk _ _ _ _ _ _ h0 h hp hF hI⟩
    · intro n listed loads fl rs fr mem ids ids1 a w _ _ _ _ _ _ _ _ _ _ _ i hi
      cases hi
  | .cons i rc rest => by
    obtain ⟨ih, _⟩ := execD_ok hsel hk rest
    have alt : ∀ (n : Nat) (listed : Array Bool) (loads : List Nat) (fl : List (Nat × Fact)) (rs : List Rec) (fr : Fr) (mem : Mem) (ids ids1 : List Nat) (a : Act) (w : World) (o : Oper), nth ops i = some o → loud o.op = true →
        (loads.all fun j => dep ops.toArray i j || rc.contains j) = true → ordOk ops.toArray false (listed.setIfInBounds i true) (loads.filter rc.contains) rest n = true → Closed ops.toArray listed → i ∈ Region.ready .any ops.toArray listed → (∀ r ∈ rs, r.i ∈ loads) → (∀ p ∈ fl, ∃ r ∈ rs, RecOk c ids1 r p) → (∀ p ∈ fl, p.2 w) →
        ids0 <+: ids → ids <+: ids1 → Inv c w ids1 mem → FrOk c ids1 fr a → sat c Q (execD c ops (.cons i rc rest) fr mem rs k) ids →
        wpOp c.P ops.toArray (OnlyN QR) i (fun a' w' => (∀ p ∈ dropDep ops.toArray i fl, p.2 w') ∧ wpAnyF c.P ops.toArray (OnlyN QR) n (dropDep ops.toArray i fl) (listed.setIfInBounds i true) a' w') a w := by
      intro n listed loads fl rs fr mem ids ids1 a w o hi hloud hall hrest hc hrd hrl hfr hfw h0 hp hI hF h
      exact stepD_loud (ids := ids) hi hloud hall (fun fl' rs' fr' mem' ids' ids1' a' w' h1 h2 h3 h4 h5 h6 h7 h8 => ih n _ _ fl' rs' fr' mem' ids' ids1' a' w' hrest (closed_set hc hrd) h1 h2 h3 (h0.trans h4) h5 h6 h7 h8) hrl hfr hfw hp hI hF h
    refine ⟨?_, ?_⟩
    · intro n listed loads fl rs fr mem ids ids1 a w ho hc hrl hfr hfw h0 hp hI hF h
      cases n with
      | zero => simp [ordOk] at ho
      | succ n =>
      simp only [ordOk] at ho
      split at ho
      · cases ho
      · rename_i o hi'
        have hi : nth ops i = some o := by rw [nth_eq]; simpa using hi'
        split at ho
        · rename_i hloud
          simp only [Bool.and_eq_true, Bool.false_or, beq_iff_eq] at ho
          obtain ⟨⟨hone, hall⟩, hrest⟩ := ho
          exact wpAnyF_only hone (alt n listed loads fl rs fr mem ids ids1 a w o hi hloud hall hrest hc (by rw [hone]; simp) hrl hfr hfw h0 hp hI hF h)
        · rename_i hloud
          simp only [Bool.and_eq_true] at ho
          obtain ⟨⟨⟨_, hrd⟩, hfree⟩, hrest⟩ := ho
          have hrd' : i ∈ Region.ready .any ops.toArray listed := by simpa using hrd
          have hc' := closed_set hc hrd'
          have hloud' : loud o.op = false := by simpa using hloud
          simp only [execD, stepD, keepRK_eq, forceSV_eq, hi, hloud'] at h
          have hQ : ∀ ch a w, ¬ OnlyN QR (.panic ch) a w := fun ch a w hh => by cases hh.1
          have hQo : ∀ a w, ¬ OnlyN QR .outgrown a w := fun a w hh => by cases hh.1
          have hrl' : ∀ r ∈ rs, r.i ∈ (if isLoad o.op = true then i :: loads else loads) := by
            intro r hr
            split
            · exact List.mem_cons_of_mem _ (hrl r hr)
            · exact hrl r hr
          rcases guardK_ok hF h with ⟨hw, fr', hF', hs⟩ | ⟨hw, fr', hF', hs⟩
          · obtain ⟨r, v, hv, hrun, hs2⟩ := stepQ_ok (b := isLoad o.op) hp hI (fun w' hI' => pureEv_ok' (fun t a hl => hI' (isLoad_of hl)) hF') hs
            obtain ⟨fr2, hF2, hs3⟩ := putK_ok hF' hv hs2
            cases hld : isLoad o.op with
            | true =>
              rw [hld] at hs3 hrest hrl'
              simp only [pushR] at hs3
              refine wpAnyF_first (F := fun w => (execOp a.eval o).run c.P w = .ok (.value v) w) (v := v) hi' (Region.noSelect_spec hsel) hQ hQo _ fl listed a w hc (freeD_spec hfree) hrd' (.inl ⟨hw, fun w' hh => hh⟩) (hrun w (fun _ => hI)) hfw ?_
              refine ih n _ _ _ _ fr2 mem ids ids1 _ w hrest hc' ?_ ?_ ?_ h0 hp hI hF2 hs3
              · intro r' hr'
                cases hr' with
                | head => simp
                | tail _ hr' => exact hrl' r' hr'
              · intro p hpf
                cases hpf with
                | head => exact ⟨_, List.mem_cons_self .., a, v, rfl, hF', hv⟩
                | tail _ hpf => obtain ⟨r', hr', hk'⟩ := hfr p hpf; exact ⟨r', List.mem_cons_of_mem _ hr', hk'⟩
              · intro p hpf
                cases hpf with
                | head => exact hrun w (fun _ => hI)
                | tail _ hpf => exact hfw p hpf
            | false =>
              rw [hld] at hs3 hrest hrl'
              simp only [pushR] at hs3
              refine wpAnyF_first (F := fun _ => True) (v := v) hi' (Region.noSelect_spec hsel) hQ hQo _ fl listed a w hc (freeD_spec hfree) hrd' (.inl ⟨hw, fun w' _ => hrun w' (by simp [hld])⟩) trivial hfw (wpAnyF_true ?_)
              exact ih n _ _ _ _ fr2 mem ids ids1 _ w hrest hc' hrl' hfr hfw h0 hp hI hF2 hs3
          · obtain ⟨fr2, hF2, hs3⟩ := putK_ok (r := .undef) (v := Go.undef) hF' rfl hs
            refine wpAnyF_first (F := fun _ => True) (v := Go.undef) hi' (Region.noSelect_spec hsel) hQ hQo _ fl listed a w hc (freeD_spec hfree) hrd' (.inr ⟨hw, rfl⟩) trivial hfw (wpAnyF_true ?_)
            exact ih n _ _ _ _ fr2 mem ids ids1 _ w hrest hc' hrl' hfr hfw h0 hp hI hF2 hs3
    · intro n listed loads fl rs fr mem ids ids1 a w ho hc hrd hrl hfr hfw h0 hp hI hF h j hj
      simp only [heads, List.mem_singleton] at hj
      subst hj
      simp only [ordOk] at ho
      split at ho
      · cases ho
      · rename_i o hi'
        have hi : nth ops j = some o := by rw [nth_eq]; simpa using hi'
        split at ho
        · rename_i hloud
          simp only [Bool.and_eq_true] at ho
          exact alt n listed loads fl rs fr mem ids ids1 a w o hi hloud ho.1.2 ho.2 hc (hrd j (by simp [heads])) hrl hfr hfw h0 hp hI hF h
        · simp at ho
  | .fork i rc rest other => by
    obtain ⟨ih, _⟩ := execD_ok hsel hk rest
    obtain ⟨_, iho⟩ := execD_ok hsel hk other
    have alt : ∀ (b : Bool) (n : Nat) (listed : Array Bool) (loads : List Nat) (fl : List (Nat × Fact)) (rs : List Rec) (fr : Fr) (mem : Mem) (ids ids1 : List Nat) (a : Act) (w : World),
        ordOk ops.toArray b listed loads (.fork i rc rest other) (n + 1) = true → Closed ops.toArray listed → (∀ j ∈ i :: heads other, j ∈ Region.ready .any ops.toArray listed) → (∀ r ∈ rs, r.i ∈ loads) → (∀ p ∈ fl, ∃ r ∈ rs, RecOk c ids1 r p) → (∀ p ∈ fl, p.2 w) →
        ids0 <+: ids → ids <+: ids1 → Inv c w ids1 mem → FrOk c ids1 fr a → sat c Q (execD c ops (.fork i rc rest other) fr mem rs k) ids →
        ∀ j ∈ i :: heads other, wpOp c.P ops.toArray (OnlyN QR) j (fun a' w' => (∀ p ∈ dropDep ops.toArray j fl, p.2 w') ∧ wpAnyF c.P ops.toArray (OnlyN QR) n (dropDep ops.toArray j fl) (listed.setIfInBounds j true) a' w') a w := by
      intro b n listed loads fl rs fr mem ids ids1 a w ho hc hrd hrl hfr hfw h0 hp hI hF h j hj
      simp only [execD, sat] at h
      simp only [ordOk] at ho
      split at ho
      · cases ho
      · rename_i o hi'
        have hi : nth ops i = some o := by rw [nth_eq]; simpa using hi'
        simp only [Bool.and_eq_true] at ho
        obtain ⟨⟨⟨⟨hloud, _⟩, hall⟩, hrest⟩, hoth⟩ := ho
        rcases List.mem_cons.1 hj with rfl | hj
        · exact stepD_loud (ids := ids) hi hloud hall (fun fl' rs' fr' mem' ids' ids1' a' w' h1 h2 h3 h4 h5 h6 h7 h8 => ih n _ _ fl' rs' fr' mem' ids' ids1' a' w' hrest (closed_set hc (hrd j (by simp))) h1 h2 h3 (h0.trans h4) h5 h6 h7 h8) hrl hfr hfw hp hI hF h.1
        · exact iho n listed loads fl rs fr mem ids ids1 a w hoth hc (fun q hq => hrd q (List.mem_cons_of_mem _ hq)) hrl hfr hfw h0 hp hI hF h.2 j hj
    refine ⟨?_, ?_⟩
    · intro n listed loads fl rs fr mem ids ids1 a w ho hc hrl hfr hfw h0 hp hI hF h
      cases n with
      | zero => simp [ordOk] at ho
      | succ n =>
      have hone : Region.ready .any ops.toArray listed = i :: heads other := by
        simp only [ordOk] at ho
        split at ho
        · cases ho
        · simp only [Bool.and_eq_true, Bool.false_or, beq_iff_eq] at ho
          exact ho.1.1.1.2
      exact wpAnyF_heads hone (by simp) (alt false n listed loads fl rs fr mem ids ids1 a w ho hc (fun j hj => by rw [hone]; exact hj) hrl hfr hfw h0 hp hI hF h)
    · intro n listed loads fl rs fr mem ids ids1 a w ho hc hrd hrl hfr hfw h0 hp hI hF h
      exact alt true n listed loads fl rs fr mem ids ids1 a w ho hc hrd hrl hfr hfw h0 hp hI hF h

theorem Closed.none {ops : Array Oper} (n : Nat) : Closed ops (Array.replicate n false) := by
  intro j oj _ hl
  rw [Array.getD_eq_getD_getElem?, Array.getElem?_replicate] at hl
  split at hl <;> simp at hl

theorem execDraw_ok {ids0 : List Nat} (hm : c.P.follows .mixedOrders = true) {id : Nat} {ops : List Oper} {k : Fr → Mem → Tree} {QR : Exit → Act → World → Prop}
    (hk : ∀ fr' mem' idsk ids2 a' w', ids0 <+: idsk → sat c Q (k fr' mem') idsk → idsk <+: ids2 → FrOk c ids2 fr' a' → Inv c w' ids2 mem' → QR .normal a' w')
    (h0 : ids0 <+: ids) (hp : ids <+: ids1) (hI : Inv c w ids1 mem) (hF : FrOk c ids1 fr a) (h : sat c Q (execDraw c id ops fr mem k) ids) : (Code.region id ops.toArray true).wp c.P QR a w := by
  have go : ∀ ord, sat c Q (.chk (drawOk ops ord) (execD c ops ord fr mem [] k)) ids → (Code.region id ops.toArray true).wp c.P QR a w := by
    intro ord h
    simp only [sat, drawOk, Bool.and_eq_true] at h
    obtain ⟨⟨hsel, hord⟩, hs⟩ := h
    have := (execD_ok (QR := fun a w => QR .normal a w) hsel hk ord).1 _ _ [] [] [] fr mem ids ids1 a _ hord (Closed.none _) (by simp) (by simp) (by simp) h0 hp hI.drew hF hs
    refine wp_mono (Q := OnlyN fun a w => QR .normal a w) ?_ ?_
    · refine wp_region_any hm ?_
      have h2 := wpAny_of_F this
      simpa using h2
    · rintro e a' w' ⟨rfl, hh⟩; exact hh
  unfold execDraw at h
  split at h
  · exact go _ h
  · exact go _ h

/-! ### Code -/
theorem exec_ok (hm : c.P.follows .mixedOrders = true) {ids0 : List Nat} : ∀ (code : Code) {k : SExit → Fr → Mem → Tree} {QR : Exit → Act → World → Prop}
    (_ : ∀ x fr' mem' idsk ids2 a' w', ids0 <+: idsk → sat c Q (k x fr' mem') idsk → idsk <+: ids2 → FrOk c ids2 fr' a' → Inv c w' ids2 mem' → QR x.out a' w')
    {ids ids1 : List Nat} {fr : Fr} {mem : Mem} {a : Act} {w : World}, ids0 <+: ids → ids <+: ids1 → Inv c w ids1 mem → FrOk c ids1 fr a → sat c Q (exec c code fr mem k) ids → code.wp c.P QR a w := by
  intro code
  induction code with
  | skip => intro k QR hk ids ids1 fr mem a w h0 hp hI hF h; exact wp_skip (hk .normal _ _ _ _ _ _ h0 h hp hF hI)
  | label l => intro k QR hk ids ids1 fr mem a w h0 hp hI hF h; exact wp_label (hk .normal _ _ _ _ _ _ h0 h hp hF hI)
  | region id ops draw =>
    intro k QR hk ids ids1 fr mem a w h0 hp hI hF h
    simp only [exec] at h
    cases draw with
    | false =>
      refine wp_region_list ?_
      have := execOps_ok (QR := QR) (fun fr' mem' idsk ids2 a' w' => hk .normal fr' mem' idsk ids2 a' w') ops.toList fr mem ids ids1 a w h0 hp hI hF h
      simpa using this
    | true =>
      have := execDraw_ok (QR := QR) hm (fun fr' mem' idsk ids2 a' w' => hk .normal fr' mem' idsk ids2 a' w') h0 hp hI hF h
      simpa using this
  | seq x y ihx ihy =>
    intro k QR hk ids ids1 fr mem a w h0 hp hI hF h
    simp only [exec] at h
    refine wp_seq (ihx ?_ h0 hp hI hF h)
    intro e fr' mem' idsk ids2 a' w' h0' hs hp' hF' hI'
    cases e with
    | normal => exact ihy hk h0' hp' hI' hF' hs
    | exit i => exact hk (.exit i) _ _ _ _ _ _ h0' hs hp' hF' hI'
    | ret => exact hk .ret _ _ _ _ _ _ h0' hs hp' hF' hI'
  | cond t x y ihx ihy =>
    intro k QR hk ids ids1 fr mem a w h0 hp hI hF h
    simp only [exec] at h
    split at h
    · rename_i ht
      have hv := ev_ok hF ht
      simp [den] at hv
      exact wp_cond_true hv.symm (ihx hk h0 hp hI hF h)
    · rename_i ht
      have hv := ev_ok hF ht
      simp [den] at hv
      exact wp_cond_false hv.symm (ihy hk h0 hp hI hF h)
    · rename_i b ht
      have hv := ev_ok hF ht
      simp [den] at hv
      simp only [sat] at h
      refine wp_cond_split hv.symm (fun hb => ?_) (fun hb => ?_)
      · exact ihx hk h0 hp hI hF (h.1 hb)
      · exact ihy hk h0 hp hI hF (h.2 hb)
    · exact h.elim
  | scope x ih =>
    intro k QR hk ids ids1 fr mem a w h0 hp hI hF h
    simp only [exec] at h
    refine wp_scope_straight (ih ?_ h0 hp hI hF h)
    intro e fr' mem' idsk ids2 a' w' h0' hs hp' hF' hI'
    have := hk e _ _ _ _ _ _ h0' hs hp' hF' hI'
    cases e <;> exact this
  | block id x ih =>
    intro k QR hk ids ids1 fr mem a w h0 hp hI hF h
    simp only [exec] at h
    refine wp_block (ih ?_ h0 hp hI hF h)
    intro e fr' mem' idsk ids2 a' w' h0' hs hp' hF' hI'
    cases e with
    | normal => exact hk .normal _ _ _ _ _ _ h0' hs hp' hF' hI'
    | ret => exact hk .ret _ _ _ _ _ _ h0' hs hp' hF' hI'
    | exit i =>
      simp only [SExit.out, Exit.inBlock]
      cases hb : Nat.beq i id with
      | true =>
        obtain rfl := Nat.eq_of_beq_eq_true hb
        simp only [hb] at hs
        rw [if_pos rfl]
        exact hk .normal _ _ _ _ _ _ h0' hs hp' hF' hI'
      | false =>
        simp only [hb] at hs
        rw [if_neg (by rintro rfl; simp at hb)]
        exact hk (.exit i) _ _ _ _ _ _ h0' hs hp' hF' hI'
  | loop x ih =>
    intro k QR hk ids ids1 fr mem a w h0 hp hI hF h
    simp only [exec, sat] at h
    refine wp_mono (h ids1 w a hp hI hF) ?_
    rintro e a' w' ⟨x, fr2, mem2, ids2, rfl, hp2, hF2, hI2, hs⟩
    exact hk x _ _ _ _ _ _ (h0.trans (hp.trans hp2)) hs (List.prefix_refl _) hF2 hI2
  | exit i => intro k QR hk ids ids1 fr mem a w h0 hp hI hF h; exact wp_exit (hk (.exit i) _ _ _ _ _ _ h0 h hp hF hI)
  | ret => intro k QR hk ids ids1 fr mem a w h0 hp hI hF h; exact wp_ret (hk .ret _ _ _ _ _ _ h0 h hp hF hI)
  | _ => intro k QR hk ids ids1 fr mem a w h0 hp hI hF h; exact h.elim
end
end Go.Proofs.YtglafgpjgkphkaaGreatDoor
