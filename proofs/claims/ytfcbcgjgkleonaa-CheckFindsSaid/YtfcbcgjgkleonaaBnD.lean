/- Package atom: maps.Clone of holds. Package atom: Copy. Chapter 16: what Do keeps, in plain numbers. Chapter 16: maps with the same look-ups answer the same. Package atom: Allows. -/
import Derived.Test.YtfcbcgjgkleonaaBnC
import Derived.Test.YtfcbcgjgkleonaaRange
import Derived.Shelf.SlMaps.Clone
import Derived.Test.YtfcbcgjgkleonaaAtE
import Derived.Maps.Range
import Derived.Test.YtfcbcgjgkleonaaBnY
namespace Go.Proofs.Ytfcbcgjgkleonaa
section
set_option maxRecDepth 100000
set_option linter.unusedSimpArgs false
set_option linter.unusedVariables false
set_option maxHeartbeats 4000000
open Go.RowKit

section
variable {c : Ctx} {Q : SExit → Fr → Mem → List Nat → World → Prop} {ids : List Nat} {w : World} {fr : Fr} {mem : Mem} {todo : List Task}
theorem n_pure {o : Oper} (r : SV) {v : Value} (hd : dstOk c o.dst = true) (hv : den ids r = some v)
    (h : ∀ ids' w (ρ : Operand → Value), ids <+: ids' → Inv c w ids' mem → (∀ x r, ev fr x = some r → den ids' r = some (ρ x)) → (execOp ρ o).run c.P w = .ok (.value v) w) (hk : satS c Q ⟨putF o.dst r fr, mem, todo⟩ ids) : satN c Q (.op o ⟨fr, mem, todo⟩) ids :=
  n_run hd fun ids' w ρ hp hI hρ => ⟨v, w, r, mem, ids', h ids' w ρ hp hI hρ, den_mono hp _ _ hv, List.prefix_refl _, hI, satS_mono hp hk⟩
end
theorem undMap : Try.prog.underlying 123 = some (.map 3 3) := by kernel_rfl
theorem Clone_ok {w : World} {b : Nat} {m : List (Int × Int)} (h : MapOf intE intV w b m) : Calls Try.prog 60 #[.map (some b)] w fun e w' => ∃ b' : Nat, e = .returned (.map (some b')) ∧ True ∧ Fresh w w' (holdsRes b' m) := by
  have hI := Inv.nil (P := Try.prog) (N := 9) (S := []) (os := []) w
  refine calls_sm (cx 9 [] [] w) (vals := [.raw (.map (some b))]) mixed Try.func60 rfl rfl rfl hI rfl (st rfl ?_); conv => arg 3; whnf
  refine gg ?_
  refine n_pure (.lit false) rfl rfl (fun ids' w1 ρ hp hI1 hρ => ?_) ?_
  · have h3 : .map (some b) = ρ (.tmp 3) := Option.some.inj (hρ (.tmp 3) _ rfl)
    have h4 : .map none = ρ (.const (.map none)) := Option.some.inj (hρ (.const (.map none)) _ rfl)
    have hr := run_eql_map_nil_sl (P := Try.prog) w1 123 _ _ (some b) undMap
    have hg : (eqGuard .eql 123 (.tmp 3) (.const (.map none)) (.map (some b)) (.map none)).run Try.prog w1 = .ok () w1 := by simp [eqGuard]
    simp only [execOp, ← h3, ← h4, Sem.run_bind, hg, Result.andThen_ok, hr, Sem.run_pure]
    rfl
  (refine gs ?_)
  refine gg ?_
  refine n_run rfl fun ids' w1 ρ hp hI1 hρ => ?_
  obtain rfl := ext0 hp (by rw [hI1.len]; rfl)
  have h6 : .iface 123 (.map (some b)) = ρ (.tmp 6) := Option.some.inj (hρ (.tmp 6) _ rfl)
  have h1 := h.keep (w' := w1) (hI1.frm.block b h.lt (by simp))
  obtain ⟨⟨es, clock, g1, g2, g3⟩, g4⟩ := h1
  have hcl := run_maps_clone_sl (P := Try.prog) w1 123 g1
  have hext := run_callFunc_extern (P := Try.prog) (f := 70) (e := Extern.MapsClone.clone) Try.func70 (by kernel_rfl) (by kernel_rfl) (by kernel_rfl) (by kernel_rfl) #[.iface 123 (.map (some b))] w1
  rw [hcl] at hext
  have hnew : MapOf intE intV (w1.alloc (.map es clock)) w1.heap.size m := ⟨⟨es, clock, (MapKept.heap_alloc w1 _).1, g2, g3⟩, g4⟩
  refine ⟨.iface 123 (.map (some w1.heap.size)), w1.alloc (.map es clock), .iface 123 (.raw (.map (some w1.heap.size))), [⟨123, [.res (holdsRes w1.heap.size m)], true⟩], _, ?_, rfl, List.prefix_append _ [0], hI1.addR ((Frm.refl [] w1).alloc _) (holdsRes w1.heap.size m) 123 true hnew (by simp [holdsRes]) (by simp [holdsRes]), ?_⟩
  · have hf : .func (.func 70) #[] #[] = ρ (.func 70) := Option.some.inj (hρ (.func 70) _ rfl)
    simp [execOp, resolve, ← h6, ← hf, Deferred.ofValue, invoke, hext, Result.andThen]
  have hbn : w.heap.size ≤ w1.heap.size := hI1.frm.size
  generalize w1.heap.size = b' at hbn
  (refine gs ?_)
  refine gg ?_
  refine n_pure (.raw (.map (some b'))) rfl rfl (fun ids' w2 ρ2 hp2 hI2 hρ2 => ?_) ?_
  · have h7 : .iface 123 (.map (some b')) = ρ2 (.tmp 7) := Option.some.inj (hρ2 (.tmp 7) _ rfl)
    have := run_typeAssert_map_sl (P := Try.prog) w2 123 20 _ _ (.map (some b')) undMap
    simp only [execOp, ← h7, Sem.run_bind, this, Result.andThen_ok, Sem.run_pure]
  (refine gs ?_)
  refine gg ?_
  exact n_ret0 rfl rfl fun ids' w' hp hI' => ⟨b', rfl, trivial, hI'.frm, hI'.res 0 rfl rfl, by simp [holdsRes]; exact hbn, hI'.resLt 0 rfl rfl⟩
end
section
set_option maxRecDepth 100000
set_option linter.unusedSimpArgs false
set_option linter.unusedVariables false
set_option maxHeartbeats 4000000
open Go.RowKit
open Go.MapKept (Stamped)

def Ctr.core (s : Ctr) : Int × Int × Int × List (Int × Int) := (s.limit, s.value, s.held, s.holds)
theorem Ctr.ok.like {s s' : Ctr} (ok : s.ok) (h : s'.core = s.core) : s'.ok := by
  obtain ⟨l, v, hh, b, m⟩ := s
  obtain ⟨l', v', hh', b', m'⟩ := s'
  simp only [Ctr.core, Prod.mk.injEq] at h
  obtain ⟨rfl, rfl, rfl, rfl⟩ := h
  exact ⟨ok.v0, ok.h0, ok.sum, ok.cap, ok.all, ok.held⟩
/-- Each counter of T has its like in A. -/
def Sub (A T : All) : Prop := ∀ nm s', mget T nm = some s' → ∃ s, mget A nm = some s ∧ s'.core = s.core
def Same (A T : All) : Prop := Sub A T ∧ ∀ nm s, mget A nm = some s → ∃ s', mget T nm = some s' ∧ s'.core = s.core

/-- A new counter, with its holds, has been stored. -/
theorem mapRes_new' {p mb : Nat} {A : All} {nm : ByteArray} (s : Ctr) (hm : mget A nm = none) {w w' : World} (hR : ((mapRes p mb A).both (holdsRes s.hb s.holds)).R w) (hf : Frm [mb] w w') (hM : MapOf strE ctrV w' mb (mput A nm s)) :
    (mapRes p mb (mput A nm s)).R w' := by
  obtain ⟨hR, hH, hap⟩ := hR
  have hlt := mapRes_lt hR
  obtain ⟨r1, r2, r3, r4⟩ := hR
  have e := (mput_new (mget_none hm)).2.1 s
  rw [e] at hM ⊢
  have hkeep : ∀ x ∈ (mapRes p mb A).fp, x ≠ mb → w'.heap[x]? = w.heap[x]? := fun x hx hn => hf.block x (hlt x hx) (by simpa using hn)
  have r4' := r4
  simp only [List.nodup_cons, List.mem_cons, not_or] at r4'
  have hp : p ≠ s.hb := fun e => hap p (by simp [mapRes]) (by simp [holdsRes, e])
  have hmb : mb ≠ s.hb := fun e => hap mb (by simp [mapRes]) (by simp [holdsRes, e])
  have hbs : ∀ x ∈ blocksOf A, x ≠ s.hb := fun x hx e => hap x (by simp only [mapRes, List.mem_cons]; exact .inr (.inr hx)) (by simp [holdsRes, e])
  have hH' : MapOf intE intV w s.hb s.holds := hH
  refine ⟨(hkeep p (by simp [mapRes]) r4'.1.1).trans r1, hM, fun x hx => ?_, ?_⟩
  · rcases List.mem_append.1 hx with hx | hx
    · exact (r3 x hx).keep (hkeep _ (by simp only [mapRes, blocksOf, List.mem_cons, List.mem_map]; exact .inr (.inr ⟨x, hx, rfl⟩)) fun e => r4'.2.1 (List.mem_map.2 ⟨x, hx, e⟩))
    · simp only [List.mem_cons, List.not_mem_nil, or_false] at hx
      subst hx
      exact hH'.keep (hf.block s.hb hH'.lt (by simp; exact fun e => hmb e.symm))
  · simp only [blocksOf, List.map_append, List.map_cons, List.map_nil, List.nodup_cons, List.mem_cons, List.mem_append, not_or, List.nodup_append, List.not_mem_nil, or_false, not_false_eq_true, List.nodup_nil, true_and] at r4 ⊢
    obtain ⟨⟨q1, q2⟩, q3, q4⟩ := r4
    exact ⟨⟨q1, q2, hp⟩, ⟨q3, hmb⟩, q4, by intro x hx y hy; subst hy; exact hbs x hx⟩

theorem Copy_ok {p mb : Nat} {A : All} {w : World} (hR : (mapRes p mb A).R w) :
    Calls Try.prog 47 #[pV p] w fun e w' => ∃ y : Nat × Nat × All, e = .returned (pV y.1) ∧ Same A y.2.2 ∧ Fresh w w' (mapRes y.1 y.2.1 y.2.2) := by
  have hI : Inv (cx 28 [] [] w) w [0] [⟨108, [.res (mapRes p mb A)], false⟩] := (Inv.nil w).consR (by simp) hR (mapRes_lt hR) (by simp)
  refine calls_sm (cx 28 [] [] w) (vals := [.raw (pV p)]) mixed Try.func47 rfl rfl rfl hI rfl (st rfl ?_); conv => arg 3; whnf
  refine gg ?_
  refine n_callN (fun y : Nat × Nat => mapRes y.1 y.2 []) 108 (fun y => .raw (pV y.1)) (fun y => pV y.1) (fun _ => True) rfl rfl rfl (fun _ => rfl) (fun w1 hI1 => New_ok w1) ?_
  rintro ⟨p', mb'⟩ _ hnew
  (refine gs ?_)
  refine gg ?_
  refine n_ldI (.raw (.map (some mb))) rfl rfl (fun _ w1 _ hI1 => mapRes_ld (hI1.res 0 rfl rfl)) ?_
  (refine gs ?_)
  refine gg ?_
  refine n_range (E := strE) (ev' := ctrV) 0 (ρ := mapRes p mb A) A 0 rfl rfl rfl rfl rfl rfl rfl (by simp [mapRes]) (fun w h => h.2.1) ?_
  intro es clock it hst hes hit
  (refine gs ?_)
  have hpair : ∀ x ∈ es.toList, ∃ nm s, (nm, s) ∈ A ∧ x.key = .string nm ∧ x.val = ctrV s := by
    intro x hx
    have := List.mem_map_of_mem (f := fun x : MapEntry => (x.key, x.val)) hx
    rw [hes] at this
    obtain ⟨⟨nm, s⟩, h1, h2⟩ := List.mem_map.1 this
    simp only [Prod.mk.injEq] at h2
    exact ⟨nm, s, h1, h2.1.symm, h2.2.symm⟩
  have hback : ∀ nm s, (nm, s) ∈ A → ∃ x ∈ es.toList, x.key = .string nm := by
    intro nm s h
    have := List.mem_map_of_mem (f := fun p : ByteArray × Ctr => (strE.ek p.1, ctrV p.2)) h
    rw [← hes] at this
    obtain ⟨x, h1, h2⟩ := List.mem_map.1 this
    simp only [Prod.mk.injEq] at h2
    exact ⟨x, h1, h2.1⟩
  have hnd : (A.map (·.1)).Nodup := hR.2.1.nodup
  refine n_loop (σ := Array Nat × All) (fun s => [(3, .raw (pV p')), (11, .raw (pV it))]) (fun s => [⟨108, [.res (mapAt (mapRes p mb A) mb es clock (by simp [mapRes]))], false⟩, ⟨108, [.res (mapRes p' mb' s.2)], true⟩, ⟨0, [.res (iterRes it mb clock s.1 clock)], true⟩]) (fun s => Sub A s.2 ∧ ∀ x ∈ es.toList, ∀ nm, x.key = .string nm → (s.1.contains x.born = true ↔ ∃ s', mget s.2 nm = some s')) (fun s => leftN es s.1) (#[], []) mixed ⟨fun nm s' h => by simp [mget] at h, fun x _ nm _ => by simp [mget]⟩ (fun _ _ => rfl) rfl (by (repeat (first | exact trivial | refine ⟨⟨rfl, rfl⟩, ?_⟩))) (fun s _ => ⟨by (repeat (first | exact trivial | refine ⟨⟨_, rfl⟩, ?_⟩)), by (repeat (first | exact trivial | refine ⟨⟨_, rfl⟩, ?_⟩))⟩) fun s hJ => ?_
  obtain ⟨seen, T⟩ := s
  obtain ⟨hsub, hseen⟩ := hJ
  dsimp only at hsub hseen ⊢
  (refine gs ?_)
  refine n_next 0 2 (es := es) (clock := clock) (ρ := mapRes p mb A) rfl rfl hst rfl rfl rfl rfl rfl rfl (fun hall => ?_) (fun x1 hx1 hns => ?_)
  · (refine gs ?_)
    refine gg ?_
    refine n_exit rfl ?_
    (refine gs ?_)
    refine gg ?_
    refine n_ret0 rfl rfl fun ids' w' hp hI' => ⟨(p', mb', T), rfl, ⟨hsub, fun nm s h => ?_⟩, hI'.frm, hI'.res 1 rfl rfl, hI'.res_new 1 rfl rfl rfl (by simp), hI'.resLt 1 rfl rfl⟩
    obtain ⟨x, hx, hk⟩ := hback nm s (mget_some h)
    obtain ⟨s', hs'⟩ := (hseen x hx nm hk).1 (hall x hx)
    obtain ⟨s2, h2, h3⟩ := hsub nm s' hs'
    rw [h] at h2
    simp at h2; subst h2
    exact ⟨s', hs', h3⟩
  · obtain ⟨nm, s, hmem, hk, hv⟩ := hpair x1 hx1
    have hTn : mget T nm = none := by
      cases hq : mget T nm with
      | none => rfl
      | some s' => rw [(hseen x1 hx1 nm hk).2 ⟨s', hq⟩] at hns; cases hns
    (refine gs ?_)
    refine gg ?_
    refine n_entry 0 2 (es := es) (ρ := mapRes p mb A) x1 (.tup [.str nm, .agg s.sv]) rfl rfl hst hx1 rfl rfl rfl rfl rfl (by rw [hk, hv]; rfl) ?_
    (refine gs ?_)
    refine gg ?_
    have hAs : mget A nm = some s := by
      obtain ⟨j, hj, e⟩ := List.getElem_of_mem hmem
      exact (mget_at hnd (p := (nm, s)) (j := j) (by rw [List.getElem?_eq_getElem hj, e])).1
    refine n_call1 rfl fun cb => ?_
    refine n_callN (fun y : Nat => holdsRes y s.holds) 123 (fun y => .raw (.map (some y))) (fun y => .map (some y)) (fun _ => True) rfl rfl rfl (fun _ => rfl) (fun w1 hI1 => Clone_ok ((hI1.res 0 rfl rfl).1.2.2.1 (nm, s) hmem)) ?_
    intro hb' _ hnb
    (refine gs ?_)
    refine gg ?_
    refine n_ldDI (.raw (.map (some mb'))) rfl rfl (fun _ w1 _ hI1 => mapRes_ld (hI1.res 1 rfl rfl)) ?_
    (refine gs ?_)
    refine gg ?_
    refine n_opI [⟨108, [.res (mapAt (mapRes p mb A) mb es clock (by simp [mapRes]))], false⟩, ⟨108, [.res ((mapRes p' mb' T).both (holdsRes hb' s.holds))], true⟩, ⟨0, [.res (iterRes it mb clock (seen.push x1.born) clock)], true⟩, ⟨125, [.int .i64 s.limit, .int .i64 s.value, .int .i64 s.held, .raw (.map (some hb'))], true⟩, ⟨123, [.res Res.none], true⟩] (fun ids' w1 _ hI1 => hI1.absorb 1 4 (by decide) rfl rfl rfl rfl rfl rfl) ?_
    have hnmok : nm.size ≤ maxLen := hR.2.1.2 (nm, s) hmem
    refine n_mapUpdate (E := strE) (ev' := ctrV) (i := 1) (b := mb') (kr := .str nm) (vr := .agg (Ctr.sv ⟨s.limit, s.value, s.held, hb', s.holds⟩)) (ρ := (mapRes p' mb' T).both (holdsRes hb' s.holds)) (mapRes p' mb' (mput T nm ⟨s.limit, s.value, s.held, hb', s.holds⟩)) T nm ⟨s.limit, s.value, s.held, hb', s.holds⟩ strK rfl rfl rfl rfl rfl rfl hnmok rfl rfl rfl rfl rfl (by simp [Res.both, mapRes]) (by rw [(mput_new (mget_none hTn)).2.1]; simp [Res.both, mapRes, holdsRes]) (fun _ _ _ _ h => by exact h.1.2.1) (fun _ _ _ _ _ hR1 hf1 h => by exact mapRes_new' ⟨s.limit, s.value, s.held, hb', s.holds⟩ hTn hR1 hf1 h) ?_
    (refine gs ?_)
    refine gg ?_
    refine n_again ⟨(seen.push x1.born, mput T nm ⟨s.limit, s.value, s.held, hb', s.holds⟩), ⟨?_, ?_⟩, leftN_lt hx1 hns, (by (repeat (first | exact trivial | refine ⟨⟨rfl, rfl⟩, ?_⟩))), ⟨_, rfl⟩⟩
    · intro nm2 s2 h2
      dsimp only at h2
      rw [mget_put] at h2
      split at h2
      · rename_i e
        subst e
        simp at h2; subst h2
        exact ⟨s, hAs, rfl⟩
      · exact hsub nm2 s2 h2
    · intro x hx nm2 hk2
      dsimp only
      rw [mget_put]
      have hst' := (MapKept.stamped_iff es clock).1 hst
      by_cases e : nm = nm2
      · subst e
        have hxx : x = x1 := entry_eq_of_key hst'.2.2 hx hx1 (hk2.trans hk.symm)
        subst hxx
        simp
      · rw [if_neg e, ← hseen x hx nm2 hk2]
        have hb : x.born ≠ x1.born := fun hb => by
          obtain rfl := born_inj hst'.2.1 hx hx1 hb
          rw [hk] at hk2
          injection hk2 with h
          exact e h
        simp [hb]
end
section
set_option maxRecDepth 100000
set_option linter.unusedSimpArgs false
set_option linter.unusedVariables false
set_option maxHeartbeats 4000000
open Go.RowKit

theorem sum_put (l : List (Int × Int)) (x y : Int) : Ctr.sum (mput l x y) = Ctr.sum l - (mget l x).getD 0 + y := by
  induction l with
  | nil => simp [mput, mget, Ctr.sum]
  | cons p l ih =>
    obtain ⟨x', z⟩ := p
    by_cases e : x' = x
    · simp [mput, mget, e, Ctr.sum]; omega
    · simp only [mput, mget, e, if_false, Ctr.sum, List.map_cons, List.sum_cons] at ih ⊢; omega

theorem Ctr.ok.inc {s : Ctr} (ok : s.ok) (x : Int) : (s.inc x).1.ok := by
  unfold Ctr.inc
  split
  · exact ok
  · split
    · exact ok
    · exact ⟨by dsimp only; omega, ok.h0, by dsimp only; omega, ok.cap, ok.all, ok.held⟩
theorem Ctr.ok.hold {s : Ctr} (ok : s.ok) (a h : Int) (ha : 0 ≤ a) : (s.hold a h).1.ok := by
  have h0 := ok.h0
  have hs := ok.sum
  unfold Ctr.hold
  split
  · exact ok
  · split
    · exact ok
    · rename_i hn
      split
      · exact ok
      · refine ⟨by dsimp only; omega, by dsimp only; omega, by dsimp only; omega, ok.cap, fun p hp => ?_, ?_⟩
        · rcases mput_keys _ _ _ p hp with h | rfl
          · exact ok.all p h
          · exact ha
        · have e : mget s.holds h = none := by simpa using hn
          dsimp only
          rw [sum_put, e, ← ok.held]; simp
theorem Ctr.ok.end_ {s : Ctr} (ok : s.ok) (k a : Int) : (s.end_ k a).1.ok := by
  have h0 := ok.h0
  have v0 := ok.v0
  have hs := ok.sum
  have hh := had_le ok.all a
  rw [← ok.held] at hh
  change 0 ≤ s.had a ∧ s.had a ≤ s.held at hh
  unfold Ctr.end_
  split
  · exact ok
  · refine ⟨?_, by dsimp only; omega, ?_, ok.cap, fun p hp => ?_, ?_⟩
    · dsimp only; split <;> omega
    · dsimp only; split <;> omega
    · rcases mput_keys _ _ _ p hp with h | rfl
      · exact ok.all p h
      · exact Int.le_refl _
    · dsimp only
      rw [sum_put, ← ok.held]; unfold Ctr.had; omega
theorem Ctr.ok.take {s : Ctr} (ok : s.ok) (a b : Int) (hb : 0 ≤ b) : (s.take a b).1.ok := by
  have hs := ok.sum
  unfold Ctr.take
  split
  · exact ok
  · split
    · exact ok
    · exact ⟨by dsimp only; omega, ok.h0, by dsimp only; omega, ok.cap, ok.all, ok.held⟩
theorem Ctr.ok.reset {s : Ctr} (ok : s.ok) (a : Int) (ha : 0 ≤ a) : (s.reset a).1.ok := by
  unfold Ctr.reset
  split
  · exact ok
  · exact ⟨ha, ok.h0, by dsimp only; omega, ok.cap, ok.all, ok.held⟩
theorem Ctr.ok.recap {s : Ctr} (ok : s.ok) (a : Int) (ha : a ≤ 1099511627776) : (s.recap a).1.ok := by
  unfold Ctr.recap
  split
  · exact ok
  · exact ⟨ok.v0, ok.h0, by dsimp only; omega, ha, ok.all, ok.held⟩

/-- What a right op's numbers are. -/
theorem right_nums {k : Int} {nm : ByteArray} {a b : Int} (h : rightB k nm a b = true) :
    (k = 1 → 1 ≤ a ∧ a ≤ 1099511627776 ∧ 0 ≤ b) ∧ (k = 2 ∨ k = 3 ∨ k = 10 ∨ k = 4 → 1 ≤ a ∧ a ≤ 1099511627776) ∧ (k = 8 → 1 ≤ b ∧ 0 ≤ a ∧ a ≤ 1099511627776) ∧ (k = 9 → 0 ≤ a ∧ a ≤ 1099511627776) ∧ (k = 7 → a = 0) ∧ (k = 1 ∨ k = 2 ∨ k = 3 ∨ k = 4 ∨ k = 5 ∨ k = 6 ∨ k = 7 ∨ k = 8 ∨ k = 9 ∨ k = 10 ∨ k = 12) := by
  unfold rightB at h
  repeat' split at h
  all_goals simp [amountB] at h
  all_goals (try subst k)
  all_goals simp
  all_goals omega

theorem actF_ok {s : Ctr} (ok : s.ok) {k a b h : Int} {nm : ByteArray} (hr : rightB k nm a b = true) : (actF s k a b h).1.ok := by
  obtain ⟨r1, r2, r3, r4, r5, r6⟩ := right_nums hr
  unfold actF
  split
  · exact ok.inc _
  · split
    · exact ok.inc _
    · split
      · rename_i hk; exact ok.hold _ _ (by have := r2 (by simp [hk]); omega)
      · split
        · exact ok.end_ _ _
        · split
          · exact ok.end_ _ _
          · split
            · exact ok.end_ _ _
            · split
              · rename_i hk; exact ok.take _ _ (by have := r3 hk; omega)
              · split
                · rename_i hk; exact ok.reset _ (by have := r4 hk; omega)
                · split
                  · rename_i hk; exact ok.recap _ (by have := r2 (by simp [hk]); omega)
                  · exact ok

abbrev AllOk (A : All) : Prop := ∀ x ∈ A, x.2.ok
theorem AllOk.put {A : All} (h : AllOk A) (nm : ByteArray) {s : Ctr} (hs : s.ok) : AllOk (mput A nm s) := fun x hx => by
  rcases mput_keys _ _ _ x hx with h1 | rfl
  · exact h x h1
  · exact hs
theorem doF_ok {A : All} (ok : AllOk A) (hn : Nat) (k : Int) (nm : ByteArray) (a b h : Int) : AllOk (doF A hn k nm a b h).1 := by
  unfold doF
  split
  · exact ok
  · rename_i hr
    have hr' : rightB k nm a b = true := by simpa using hr
    split
    · split
      · rename_i hk
        split
        · exact ok
        · have := (right_nums hr').1 hk
          exact ok.put _ ⟨by dsimp only; omega, Int.le_refl _, by dsimp only; omega, by dsimp only; omega, by simp, by simp [Ctr.sum]⟩
      · exact ok
    · rename_i s hm
      split
      · exact ok
      · exact ok.put _ (actF_ok (ok _ (mget_some hm)) hr')
theorem doF_errs {A : All} {hn : Nat} {k : Int} {nm : ByteArray} {a b h : Int} (he : (doF A hn k nm a b h).2.2 ≠ 0) : (doF A hn k nm a b h).1 = A ∧ (doF A hn k nm a b h).2.1 = 0 := by
  revert he
  unfold doF
  split
  · simp
  · split
    · repeat' split
      all_goals simp
    · rename_i s hm
      split
      · simp
      · intro he
        have := actF_err he
        refine ⟨?_, this.2⟩
        dsimp only
        rw [this.1, mput_self hm]
end
section
set_option maxRecDepth 100000
set_option linter.unusedSimpArgs false
set_option linter.unusedVariables false
set_option maxHeartbeats 4000000
open Go.RowKit

theorem actF_like {s s' : Ctr} (h : s'.core = s.core) (k a b hh : Int) : (actF s' k a b hh).1.core = (actF s k a b hh).1.core ∧ (actF s' k a b hh).2 = (actF s k a b hh).2 := by
  obtain ⟨l, v, hd, q, m⟩ := s
  obtain ⟨l', v', hd', q', m'⟩ := s'
  simp only [Ctr.core, Prod.mk.injEq] at h
  obtain ⟨rfl, rfl, rfl, rfl⟩ := h
  have hinc : ∀ x, ((Ctr.inc ⟨l', v', hd', q', m'⟩ x).1.core = (Ctr.inc ⟨l', v', hd', q, m'⟩ x).1.core ∧ (Ctr.inc ⟨l', v', hd', q', m'⟩ x).2 = (Ctr.inc ⟨l', v', hd', q, m'⟩ x).2) := fun x => by
    unfold Ctr.inc Ctr.core
    by_cases h1 : v' + x < 0 <;> by_cases h2 : l' < v' + x + hd' <;> simp [h1, h2]
  have hend : ∀ x, ((Ctr.end_ ⟨l', v', hd', q', m'⟩ x a).1.core = (Ctr.end_ ⟨l', v', hd', q, m'⟩ x a).1.core ∧ (Ctr.end_ ⟨l', v', hd', q', m'⟩ x a).2 = (Ctr.end_ ⟨l', v', hd', q, m'⟩ x a).2) := fun x => by
    unfold Ctr.end_ Ctr.core Ctr.had
    by_cases h1 : (mget m' a).getD 0 = 0 <;> simp [h1]
  unfold actF
  split
  · exact hinc _
  · split
    · exact hinc _
    · split
      · unfold Ctr.hold Ctr.core
        by_cases h1 : v' < a <;> by_cases h2 : (mget m' hh).isSome <;> by_cases h3 : hh < 1 <;> simp [h1, h2, h3]
      · split
        · exact hend _
        · split
          · exact hend _
          · split
            · exact hend _
            · split
              · unfold Ctr.take Ctr.core
                by_cases h1 : v' = a
                · subst h1
                  by_cases h2 : v' < b <;> simp [h2]
                · simp [h1]
              · split
                · unfold Ctr.reset Ctr.core
                  by_cases h1 : l' < a + hd' <;> simp [h1]
                · split
                  · unfold Ctr.recap Ctr.core
                    by_cases h1 : a < v' + hd' <;> simp [h1]
                  · exact ⟨rfl, rfl⟩
theorem Same.put {A T : All} (h : Same A T) (nm : ByteArray) {s s' : Ctr} (hs : s'.core = s.core) : Same (mput A nm s) (mput T nm s') := by
  refine ⟨fun n2 x h2 => ?_, fun n2 x h2 => ?_⟩
  · rw [mget_put] at h2 ⊢
    by_cases e : nm = n2
    · rw [if_pos e] at h2 ⊢; simp at h2; subst h2; exact ⟨s, rfl, hs⟩
    · rw [if_neg e] at h2 ⊢; exact h.1 n2 x h2
  · rw [mget_put] at h2 ⊢
    by_cases e : nm = n2
    · rw [if_pos e] at h2 ⊢; simp at h2; subst h2; exact ⟨s', rfl, hs⟩
    · rw [if_neg e] at h2 ⊢; exact h.2 n2 x h2
theorem doF_like {A T : All} (h : Same A T) (hn hn' : Nat) (k : Int) (nm : ByteArray) (a b hh : Int) : (doF T hn' k nm a b hh).2 = (doF A hn k nm a b hh).2 ∧ Same (doF A hn k nm a b hh).1 (doF T hn' k nm a b hh).1 := by
  unfold doF
  by_cases hr : rightB k nm a b = false
  · rw [if_pos hr, if_pos hr]; exact ⟨rfl, h⟩
  · rw [if_neg hr, if_neg hr]
    cases hm : mget A nm with
    | none =>
      have hT : mget T nm = none := by
        cases hq : mget T nm with
        | none => rfl
        | some s' => obtain ⟨s, h1, _⟩ := h.1 nm s' hq; rw [hm] at h1; cases h1
      rw [hT]
      dsimp only
      repeat' split
      · exact ⟨rfl, h⟩
      · exact ⟨rfl, h.put nm rfl⟩
      · exact ⟨rfl, h⟩
    | some s =>
      obtain ⟨s', h1, h2⟩ := h.2 nm s hm
      rw [h1]
      dsimp only
      split
      · exact ⟨rfl, h⟩
      · obtain ⟨g1, g2⟩ := actF_like h2 k a b hh
        exact ⟨g2, h.put nm g1⟩
theorem Same.refl (A : All) : Same A A := ⟨fun _ s h => ⟨s, h, rfl⟩, fun _ s h => ⟨s, h, rfl⟩⟩
theorem Same.trans {A B C : All} (h : Same A B) (g : Same B C) : Same A C := by
  refine ⟨fun nm s h1 => ?_, fun nm s h1 => ?_⟩
  · obtain ⟨s2, h2, e2⟩ := g.1 nm s h1
    obtain ⟨s3, h3, e3⟩ := h.1 nm s2 h2
    exact ⟨s3, h3, e2.trans e3⟩
  · obtain ⟨s2, h2, e2⟩ := h.2 nm s h1
    obtain ⟨s3, h3, e3⟩ := g.2 nm s2 h2
    exact ⟨s3, h3, e3.trans e2⟩
theorem Same.symm {A B : All} (h : Same A B) : Same B A := ⟨fun nm s h1 => by obtain ⟨s2, h2, e⟩ := h.2 nm s h1; exact ⟨s2, h2, e.symm⟩, fun nm s h1 => by obtain ⟨s2, h2, e⟩ := h.1 nm s h1; exact ⟨s2, h2, e.symm⟩⟩
theorem AllOk.like {A T : All} (ok : AllOk A) (h : Same A T) (hnd : (T.map (·.1)).Nodup) : AllOk T := by
  intro x hx
  obtain ⟨j, hj, e⟩ := List.getElem_of_mem hx
  have h1 := (mget_at hnd (p := x) (j := j) (by rw [List.getElem?_eq_getElem hj, e])).1
  obtain ⟨s, h2, h3⟩ := h.1 x.1 x.2 h1
  exact (ok _ (mget_some h2)).like h3
end
section
set_option maxRecDepth 100000
set_option linter.unusedSimpArgs false
set_option linter.unusedVariables false
set_option maxHeartbeats 4000000
open Go.RowKit

/-- m.all = t.all. -/
theorem mapRes_moved {p mb p2 mb2 : Nat} {A A2 : All} {w w' : World} (hR : ((mapRes p mb A).both (mapRes p2 mb2 A2)).R w) (hf : Frm [p] w w') (hb : Blk w' p #[.map (some mb2)] 108) : (mapRes p mb2 A2).R w' := by
  obtain ⟨h1, h2, hap⟩ := hR
  have hlt := mapRes_lt h2
  obtain ⟨r1, r2, r3, r4⟩ := h2
  have hp : p ∉ (mapRes p2 mb2 A2).fp := hap p (by simp [mapRes])
  have hkeep : ∀ x ∈ (mapRes p2 mb2 A2).fp, w'.heap[x]? = w.heap[x]? := fun x hx => hf.block x (hlt x hx) (by simp; rintro rfl; exact hp hx)
  refine ⟨hb, r2.keep (hkeep mb2 (by simp [mapRes])), fun x hx => (r3 x hx).keep (hkeep _ (by simp only [mapRes, blocksOf, List.mem_cons, List.mem_map]; exact .inr (.inr ⟨x, hx, rfl⟩))), ?_⟩
  simp only [mapRes, List.mem_cons, not_or] at hp
  rw [List.nodup_cons] at r4 ⊢
  exact ⟨by simp only [List.mem_cons, not_or]; exact hp.2, r4.2⟩

abbrev effV (sp se id k : Int) (nm : ByteArray) (a b er va : Int) : Array Value := #[.int .i64 sp, .int .i64 se, .int .i64 id, .int .i64 k, .string nm, .int .i64 a, .int .i64 b, .int .i64 er, .int .i64 va]
abbrev effS (sp se id k : Int) (nm : ByteArray) (a b er va : Int) : List SV := [.int .i64 sp, .int .i64 se, .int .i64 id, .int .i64 k, .str nm, .int .i64 a, .int .i64 b, .int .i64 er, .int .i64 va]
def allowB (D : All × Int × Int) (er va : Int) : Bool := !(decide (D.2.2 = 1) || decide (D.2.2 ≠ er) || decide (D.2.1 ≠ va))
theorem Allows_ok {p mb : Nat} {A : All} {w : World} (hR : (mapRes p mb A).R w) (ok : AllOk A) (sp se id k : Int) (nm : ByteArray) (a b er va : Int) (hnm : nm.size ≤ maxLen) (ha : i64 a) (hv : i64 va) :
    Calls Try.prog 40 #[pV p, .agg (effV sp se id k nm a b er va)] w fun e w' => ∃ y : Nat × All, e = .returned (.bool (allowB (doF A 0 k nm a b va) er va)) ∧ (Same (if allowB (doF A 0 k nm a b va) er va then (doF A 0 k nm a b va).1 else A) y.2 ∧ AllOk y.2) ∧ Frm (mapRes p mb A).fp w w' ∧ (mapRes p y.1 y.2).R w' ∧ (∀ x ∈ (mapRes p y.1 y.2).fp, x ∈ (mapRes p mb A).fp ∨ w.heap.size ≤ x) ∧ ∀ x ∈ (mapRes p y.1 y.2).fp, x < w'.heap.size := by
  have hI : Inv (cx 40 [] (mapRes p mb A).fp w) w [0] [⟨108, [.res (mapRes p mb A)], true⟩] := (Inv.nil w).consR (by simp) hR (mapRes_lt hR) (by simp)
  refine calls_sm (cx 40 [] (mapRes p mb A).fp w) (vals := [.raw (pV p), .agg (effS sp se id k nm a b er va)]) mixed Try.func40 rfl rfl rfl hI rfl (st rfl ?_); conv => arg 3; whnf
  refine gg ?_
  refine n_call1 rfl fun eb => ?_
  refine n_callN (fun y : Nat × Nat × All => mapRes y.1 y.2.1 y.2.2) 108 (fun y => .raw (pV y.1)) (fun y => pV y.1) (fun y => Same A y.2.2 ∧ (y.2.2.map (·.1)).Nodup) rfl rfl rfl (fun _ => rfl) (fun w1 hI1 => (Copy_ok (hI1.res 0 rfl rfl)).mono fun e w' ⟨y, he, hs, hf⟩ => ⟨y, he, ⟨hs, hf.2.1.2.1.nodup⟩, hf⟩) ?_
  rintro ⟨p2, mb2, A2⟩ ⟨hsame, hnd⟩ hnew
  dsimp only at hsame hnd
  have ok2 := ok.like hsame hnd
  (refine gs ?_)
  refine gw ?_
  refine n_callR (Y := Nat) 2 (fun hn => mapRes p2 mb2 (doF A2 hn k nm a b va).1) (fun hn => ansS (doF A2 hn k nm a b va).2.1 (doF A2 hn k nm a b va).2.2) (fun hn => ansV (doF A2 hn k nm a b va).2.1 (doF A2 hn k nm a b va).2.2) (fun _ => True) rfl rfl (fun _ => rfl) rfl rfl rfl (fun _ w1 hp1 hI1 hR => Do_ok hR ok2 k nm a b va hnm ha hv) ?_
  intro hn _
  obtain ⟨d1, d2⟩ := doF_like hsame 0 hn k nm a b va
  have dok := doF_ok ok2 hn k nm a b va
  rw [d1]
  generalize doF A2 hn k nm a b va = D2 at d1 d2 dok
  generalize doF A 0 k nm a b va = D at d1 d2
  (refine gs ?_)
  refine gw ?_
  by_cases c1 : D.2.2 = 1
  · have hB : allowB D er va = false := by simp [allowB, c1]
    (repeat ((first | refine n_must rfl ?_ | refine n_chk (drawF_ok (by decide +kernel)) ?_ | refine n_same rfl ?_ | ((first | refine n_must ?_ ?_ | refine n_brT ?_ ?_); (focus (first | (simp [c1]; done) | (simp [c1]; omega) | (simp only [c1]; simp; done)))) | (refine n_brF ?_ ?_; (focus (first | (simp [c1]; done) | (simp [c1]; omega) | (simp only [c1]; simp; done)))) | refine n_must (by (with_reducible refine and_shape ?_) <;> kernel_rfl) ?_); (refine gs ?_)))
    rw [hB]
    exact n_ret0 rfl rfl fun ids' w' hp hI' => ⟨(mb, A), rfl, ⟨by simpa using Same.refl A, ok⟩, hI'.frm, hI'.res 0 rfl rfl, fun x hx => hI'.own 0 _ rfl rfl x (by rw [fpOf_res (r := mapRes p mb A) rfl]; exact hx), hI'.resLt 0 rfl rfl⟩
  by_cases c2 : D.2.2 ≠ er
  · have hB : allowB D er va = false := by simp [allowB, c1, c2]
    (repeat ((first | refine n_must rfl ?_ | refine n_chk (drawF_ok (by decide +kernel)) ?_ | refine n_same rfl ?_ | ((first | refine n_must ?_ ?_ | refine n_brT ?_ ?_); (focus (first | (simp [c1, c2]; done) | (simp [c1, c2]; omega) | (simp only [c1, c2]; simp; done)))) | (refine n_brF ?_ ?_; (focus (first | (simp [c1, c2]; done) | (simp [c1, c2]; omega) | (simp only [c1, c2]; simp; done)))) | refine n_must (by (with_reducible refine and_shape ?_) <;> kernel_rfl) ?_); (refine gs ?_)))
    rw [hB]
    exact n_ret0 rfl rfl fun ids' w' hp hI' => ⟨(mb, A), rfl, ⟨by simpa using Same.refl A, ok⟩, hI'.frm, hI'.res 0 rfl rfl, fun x hx => hI'.own 0 _ rfl rfl x (by rw [fpOf_res (r := mapRes p mb A) rfl]; exact hx), hI'.resLt 0 rfl rfl⟩
  replace c2 : D.2.2 = er := Classical.not_not.1 c2
  by_cases c3 : D.2.1 ≠ va
  · have hB : allowB D er va = false := by simp [allowB, c1, c2, c3]
    (repeat ((first | refine n_must rfl ?_ | refine n_chk (drawF_ok (by decide +kernel)) ?_ | refine n_same rfl ?_ | ((first | refine n_must ?_ ?_ | refine n_brT ?_ ?_); (focus (first | (simp [c1, c2, c3]; done) | (simp [c1, c2, c3]; omega) | (simp only [c1, c2, c3]; simp; done)))) | (refine n_brF ?_ ?_; (focus (first | (simp [c1, c2, c3]; done) | (simp [c1, c2, c3]; omega) | (simp only [c1, c2, c3]; simp; done)))) | refine n_must (by (with_reducible refine and_shape ?_) <;> kernel_rfl) ?_); (refine gs ?_)))
    rw [hB]
    exact n_ret0 rfl rfl fun ids' w' hp hI' => ⟨(mb, A), rfl, ⟨by simpa using Same.refl A, ok⟩, hI'.frm, hI'.res 0 rfl rfl, fun x hx => hI'.own 0 _ rfl rfl x (by rw [fpOf_res (r := mapRes p mb A) rfl]; exact hx), hI'.resLt 0 rfl rfl⟩
  replace c3 : D.2.1 = va := Classical.not_not.1 c3
  have hB : allowB D er va = true := by simp [allowB, c1, c2, c3]; exact fun e => c1 (c2.trans e)
  (repeat ((first | refine n_must rfl ?_ | refine n_chk (drawF_ok (by decide +kernel)) ?_ | refine n_same rfl ?_ | ((first | refine n_must ?_ ?_ | refine n_brT ?_ ?_); (focus (first | (simp [c1, c2, c3]; done) | (simp [c1, c2, c3]; omega) | (simp only [c1, c2, c3]; simp; done)))) | (refine n_brF ?_ ?_; (focus (first | (simp [c1, c2, c3]; done) | (simp [c1, c2, c3]; omega) | (simp only [c1, c2, c3]; simp; done)))) | refine n_must (by (with_reducible refine and_shape ?_) <;> kernel_rfl) ?_); (refine gs ?_)))
  refine n_ldI (.raw (.map (some mb2))) rfl rfl (fun _ w1 _ hI1 => mapRes_ld (hI1.res 2 rfl rfl)) ?_
  (refine gs ?_)
  refine gw ?_
  refine n_opI (setCells (setCells _ 0 [.res ((mapRes p mb A).both (mapRes p2 mb2 D2.1))]) 2 [.res Res.none]) (fun ids' w1 _ hI1 => hI1.absorb 0 2 (by decide) rfl rfl rfl rfl rfl rfl) ?_
  refine n_storeP (n := p) (off := 0) (k := 1) (l := [.map (some mb)]) (rv := .raw (.map (some mb2))) 0 (mapRes p mb2 D2.1) [.map (some mb2)] rfl rfl rfl rfl rfl rfl rfl rfl rfl rfl rfl (by simp [Res.both, mapRes]) (fun w h => h.1.1) (by simp) rfl (fun w w' h hf hb => mapRes_moved h hf hb) (by simp [Res.both, mapRes]; grind) ?_
  (refine gs ?_)
  refine gw ?_
  rw [hB]
  exact n_ret0 rfl rfl fun ids' w' hp hI' => ⟨(mb2, D2.1), rfl, ⟨by simpa using d2, dok⟩, hI'.frm, hI'.res 0 rfl rfl, fun x hx => hI'.own 0 _ rfl rfl x (by rw [fpOf_res (r := mapRes p mb2 D2.1) rfl]; exact hx), hI'.resLt 0 rfl rfl⟩
end
end Go.Proofs.Ytfcbcgjgkleonaa
