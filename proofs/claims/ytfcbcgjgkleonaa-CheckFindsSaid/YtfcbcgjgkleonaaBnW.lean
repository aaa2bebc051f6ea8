/- A law's row out of its walk: the call returns true, and what lay below is as it was: so each argument reads as before. A part of two is parted. -/
import Derived.Test.YtfcbcgjgkleonaaBase
import Derived.ProofKit
import Derived.LaidMore
import Derived.OpenShut
import Derived.Stop.Joined
import Derived.MakeChecks
import Derived.Test.YtfcbcgjgkleonaaAs
namespace Go.Proofs.Ytfcbcgjgkleonaa
section
open Go.ChangeShapes Go.WideShapes Go.WideElems Go.RowKit

section
variable {H : Type} {enc : TypeId × Value → H} {P : Program}

theorem trodAll_stays (hl : laidOutB P = true) {W W' : World} (hb : Below W.heap.size W W') {sp : Nat → Bool} :
    ∀ {ts : List TypeId} {vs : List Value} {ds : List (DataW H)} {ps : List MemPlace}, (ts.all fun t => P.readableRec t && decide (t < P.types.size)) = true → DataW.TrodAll enc P W 0 (fun _ => true) true ts vs ds ps →
      (∀ x ∈ ps, x.block < W.heap.size) → (∀ x ∈ ps, sp x.block = true) → DataW.TrodAll enc P W' 0 sp true ts vs ds ps
  | [], [], [], _, _, h, _, _ => h
  | [], [], _ :: _, _, _, h, _, _ => h.elim
  | [], _ :: _, _, _, _, h, _, _ => h.elim
  | _ :: _, [], _, _, _, h, _, _ => h.elim
  | _ :: _, _ :: _, [], _, _, h, _, _ => h.elim
  | t :: ts, v :: vs, d :: ds, ps, hr, h, hlt, hs => by
    obtain ⟨p, q, h1, h2, rfl⟩ := h
    simp only [List.all_cons, Bool.and_eq_true, decide_eq_true_eq] at hr
    exact ⟨p, q, Trod_stays hl hr.1.1 hr.1.2 h1 (fun x hx => hb.same (hlt x (by simp [hx]))) (fun x hx => hs x (by simp [hx])),
      trodAll_stays hl hb hr.2 h2 (fun x hx => hlt x (by simp [hx])) (fun x hx => hs x (by simp [hx])), rfl⟩

theorem law_post {fn : Func} {s : ChangeSpec} {tb : TypeId} {apart fresh handsOn : Bool} {W W' : World} {args : Array Value} {ds gs : List (DataW H)} {before : List MemPlace}
    (hl : laidOutB P = true) (hr : (fn.params.toList.all fun t => P.readableRec t && decide (t < P.types.size)) = true) (hres : fn.resultTypes = #[tb]) (hbool : P.underlying tb = some .bool) (hv : s.vars = [])
    (hs : ∀ ds : List (DataW H), ds.length = fn.params.size → s.fn H ds = { results := [.lit (.bool true)], args := ds })
    (hW : DataW.Whole enc P fn.params.toList s.vars apart W args.toList ds gs before) (hf : Frm [] W W') : s.post enc P fn apart fresh handsOn false W args (.bool true) W' := by
  have hb : Below W.heap.size W W' := hf.below (Nat.le_refl _) (by simp)
  have hW0 := hW
  have hlt : ∀ x ∈ before, x.block < W.heap.size := fun x hx => hW.lt x hx
  obtain ⟨p, q, hA, hV, e, hfz, hnd⟩ := hW
  rw [hv] at hV
  obtain ⟨rfl, rfl⟩ := trodVars_none hV
  have hlen : ∀ {ts : List TypeId} {vs : List Value} {ds : List (DataW H)} {ps : List MemPlace}, DataW.TrodAll enc P W 0 (fun _ => true) true ts vs ds ps → ds.length = ts.length := by
    intro ts
    induction ts with
    | nil => intro vs ds ps h; cases vs <;> cases ds <;> first | rfl | exact h.elim
    | cons t ts ih =>
      intro vs ds ps h
      cases vs <;> cases ds <;> first | exact h.elim | skip
      obtain ⟨_, _, _, h2, _⟩ := h
      simp [ih h2]
  have e1 : s.fn H (ds ++ []) = { results := [.lit (.bool true)], args := ds } := by
    rw [List.append_nil]; exact hs _ (by rw [hlen hA]; simp)
  have e2 : before = p := by rw [e]; simp
  subst e2
  refine ⟨ds, [], before, [], before, [], hW0, ?_, ?_, ?_, World.keptBut_mono (fun p hp => ⟨hp, .inr (.inl hp)⟩) (hb.frame (· ∈ before)), fun h => by cases h⟩
  · rw [e1, hres]; exact trodAll_mk1 (shut_bool hbool _)
  · rw [e1]; exact trodAll_stays hl hb hr hA hlt (fun x hx => by simpa using hlt x hx)
  · rw [e1, hv]; exact rfl

theorem wf_i64 {x : Int} (h : (Lit.int .i64 x).wf = true) : -9223372036854775808 ≤ x ∧ x ≤ 9223372036854775807 := by
  simp [Lit.wf] at h
  have e1 : IntKind.i64.min = -9223372036854775808 := by decide
  have e2 : IntKind.i64.max = 9223372036854775807 := by decide
  omega

/-- The row's inner statement out of the walk. -/
theorem law_lifted {C : Checked} {os : Os} {f : FuncId} {fn : Func} {s : ChangeSpec} {tb : TypeId} {apart fresh handsOn : Bool} {X : World → Array Value → Prop}
    (hX : ∀ (w w' : World) (args : Array Value), w.heap = w'.heap → X w args → X w' args)
    (own : ownKnob C.prog.godebug = none) (started : os.Started) (noInit : C.prog.inits.idxOf? f = none) (hfn : C.prog.funcs[f]? = some fn)
    (w0 : World) (args0 : Array Value) (fuel : Nat) (hos : w0.os = os)
    (hsh : (w0.forCall (fun _ _ => 0) ⟨#[], args0, []⟩).Shaped C.prog)
    (hok : Input.okWideB C.prog (w0.forCall (fun _ _ => 0) ⟨#[], args0, []⟩) f ⟨#[], args0, []⟩ = true)
    (hpre : s.preB enc C.prog fn [] apart (w0.forCall (fun _ _ => 0) ⟨#[], args0, []⟩).memory args0 fuel = true)
    (hsz : s.sizedB enc C.prog fn apart (w0.forCall (fun _ _ => 0) ⟨#[], args0, []⟩).memory args0 fuel = true)
    (hx : X (w0.forCall (fun _ _ => 0) ⟨#[], args0, []⟩).memory args0)
    (hl : laidOutB C.prog = true) (hr : (fn.params.toList.all fun t => C.prog.readableRec t && decide (t < C.prog.types.size)) = true) (hres : fn.resultTypes = #[tb]) (hbool : C.prog.underlying tb = some .bool) (hv : s.vars = [])
    (hs : ∀ ds : List (DataW H), ds.length = fn.params.size → s.fn H ds = { results := [.lit (.bool true)], args := ds })
    (walk : ∀ (W : World) (base : Nat) (args : Array Value) (ds : List (DataW H)) (p : List MemPlace),
      (∀ (j : Nat) t v, fn.params[j]? = some t → args[j]? = some v → Value.okWide C.prog W .any base t v) →
      DataW.TrodAll enc C.prog W 0 (fun _ => true) true fn.params.toList args.toList ds p →
      (DataW.weightsEach C.prog fn.params.toList ds).all (· ≤ reachBytes) = true → X W args →
      Calls C.prog f args W fun e W' => e = .returned (.bool true) ∧ Frm [] W W') :
    ReturnsInHanded {} C os f .any (fun w args => (s.pre enc C.prog fn [] apart w args ∧ X w args) ∧ sizedMet enc C.prog fn (OpenSpec.ofChange s) apart w args) (s.post enc C.prog fn apart fresh handsOn false) := by
  refine returnsInHanded_of_change_and hX own started noInit hfn (ChangeSpec.witness_shaped (enc := enc) false w0 args0 fuel hos hsh hok hpre hsz hx) ?_
  intro W base args ds gs before hval hW _ hwt hXW _
  have hW' := hW
  obtain ⟨p, q, hA, hV, rfl, hfz, hnd⟩ := hW
  have hV' := hV
  rw [hv] at hV'
  obtain ⟨rfl, rfl⟩ := trodVars_none hV'
  refine (walk W base args ds p hval hA (by simpa [hv, ChangeSpec.plain, DataSpec.varTypes] using hwt) hXW).mono fun e W' ⟨he, hf⟩ => ?_
  exact ⟨_, he, law_post hl hr hres hbool hv hs hW' hf⟩
end
end
section
set_option linter.unusedVariables false
set_option linter.unusedSimpArgs false
open Go.RowKit

section
variable {c : Ctx} {Q : SExit → Fr → Mem → List Nat → World → Prop} {ids : List Nat} {w : World} {fr : Fr} {mem : Mem} {todo : List Task}
/-- A part of two is parted: its second goes to the place j, which is empty. -/
theorem Inv.spread (hI : Inv c w ids mem) (i j : Nat) {b b2 : SBlk} {ρ σ : Res} (hij : i ≠ j) (hb : nth mem i = some b) (hr : resOf b = some (ρ.both σ)) (hb2 : nth mem j = some b2) (hr2 : resOf b2 = some Res.none) (hrw : b.rw = true) :
    Inv c w ids (setCells (setCells mem i [.res ρ]) j [.res σ]) := by
  rw [setCells_eq (b := b2) (by rw [nth_setCells_ne hij]; exact hb2), setCells_eq hb]
  have key : ∀ k b', nth (setNth (setNth mem i { b with cells := [.res ρ] }) j { b2 with cells := [.res σ] }) k = some b' → (k = j ∧ b' = { b2 with cells := [.res σ] }) ∨ (k ≠ j ∧ k = i ∧ b' = { b with cells := [.res ρ] }) ∨ (k ≠ j ∧ k ≠ i ∧ nth mem k = some b') := by
    intro k b' hk
    rw [nth_setNth] at hk
    split at hk
    · rename_i h1
      rw [if_pos (by rw [setNth_len]; exact nth_lt hb2)] at hk
      exact .inl ⟨h1.symm, by simpa using hk.symm⟩
    · rename_i h1
      rw [nth_setNth] at hk
      split at hk
      · rename_i h2
        rw [if_pos (nth_lt hb)] at hk
        exact .inr (.inl ⟨fun e => h1 e.symm, h2.symm, by simpa using hk.symm⟩)
      · rename_i h2
        exact .inr (.inr ⟨fun e => h1 e.symm, fun e => h2 e.symm, hk⟩)
  have f1 : ∀ i, fpOf ids i { b with cells := [SV.res ρ] } = ρ.fp := fun i => fpOf_res (r := ρ) rfl
  have f2 : ∀ i, fpOf ids i { b2 with cells := [SV.res σ] } = σ.fp := fun i => fpOf_res (r := σ) rfl
  have hl : ∀ x ∈ ρ.fp, x ∈ fpOf ids i b := fun x hx => by rw [fpOf_res hr]; exact List.mem_append_left _ hx
  have hm : ∀ x ∈ σ.fp, x ∈ fpOf ids i b := fun x hx => by rw [fpOf_res hr]; exact List.mem_append_right _ hx
  obtain ⟨r1, r2, r3⟩ := hI.res i hb hr
  have hlt := hI.resLt i hb hr
  refine ⟨hI.frm, by simp [setNth_len, hI.len], ?_, ?_, ?_⟩
  · intro k b' hk
    rcases key k b' hk with ⟨rfl, rfl⟩ | ⟨_, rfl, rfl⟩ | ⟨_, _, hk⟩
    · exact ⟨r2, fun x hx => hlt x (List.mem_append_right _ hx)⟩
    · exact ⟨r1, fun x hx => hlt x (List.mem_append_left _ hx)⟩
    · exact hI.good k b' hk
  · intro k k' bk bk' hk hk' hkk x hx hx'
    rcases key k bk hk with ⟨rfl, rfl⟩ | ⟨n1, rfl, rfl⟩ | ⟨n1, n2, h3⟩
    · rw [f2] at hx
      rcases key k' bk' hk' with ⟨rfl, rfl⟩ | ⟨_, rfl, rfl⟩ | ⟨m1, m2, h3'⟩
      · exact hkk rfl
      · rw [f1] at hx'; exact r3 x hx' hx
      · exact hI.apart i k' b bk' hb h3' (fun e => m2 e.symm) x (hm x hx) hx'
    · rw [f1] at hx
      rcases key k' bk' hk' with ⟨rfl, rfl⟩ | ⟨_, rfl, rfl⟩ | ⟨m1, m2, h3'⟩
      · rw [f2] at hx'; exact r3 x hx hx'
      · exact hkk rfl
      · exact hI.apart k k' b bk' hb h3' hkk x (hl x hx) hx'
    · rcases key k' bk' hk' with ⟨rfl, rfl⟩ | ⟨_, rfl, rfl⟩ | ⟨m1, m2, h3'⟩
      · rw [f2] at hx'; exact hI.apart k i bk b h3 hb n2 x hx (hm x hx')
      · rw [f1] at hx'; exact hI.apart k k' bk b h3 hb hkk x hx (hl x hx')
      · exact hI.apart k k' bk bk' h3 h3' hkk x hx hx'
  · intro k b' hk hrw' x hx
    rcases key k b' hk with ⟨rfl, rfl⟩ | ⟨_, rfl, rfl⟩ | ⟨_, _, hk⟩
    · rw [f2] at hx; exact hI.own i b hb hrw x (hm x hx)
    · rw [f1] at hx; exact hI.own k b hb hrw x (hl x hx)
    · exact hI.own k b' hk hrw' x hx
/-- A part is known less. -/
theorem Inv.less (hI : Inv c w ids mem) (i : Nat) {b : SBlk} {ρ σ : Res} (hb : nth mem i = some b) (hr : resOf b = some ρ) (hrw : b.rw = true) (h : σ.R w) (hfp : ∀ x ∈ σ.fp, x ∈ ρ.fp) : Inv c w ids (setCells mem i [.res σ]) :=
  hI.updR (w' := w) (ρ' := σ) i hb hr hrw ((Frm.refl [] w).mono (by simp)) h (fun x hx => .inl (hfp x hx)) (fun x hx => hI.resLt i hb hr x (hfp x hx))
end
theorem Post.less {ρ ρ' σ : Res} {w w' : World} (h : Post ρ ρ' w w') (hR : σ.R w') (hfp : ∀ x ∈ σ.fp, x ∈ ρ'.fp) : Post ρ σ w w' := ⟨h.1, hR, fun x hx => h.2.2.1 x (hfp x hx), fun x hx => h.2.2.2 x (hfp x hx)⟩
end
end Go.Proofs.Ytfcbcgjgkleonaa
