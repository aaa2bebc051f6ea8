/- Package atom: Copy. -/
import Derived.Test.YteapjjkgbnnipaaAtE
import Derived.Test.YteapjjkgbnnipaaAtP
import Derived.Maps.Range
set_option maxRecDepth 100000
set_option linter.unusedSimpArgs false
set_option linter.unusedVariables false
set_option maxHeartbeats 4000000
namespace Go.Proofs.Yteapjjkgbnnipaa
open Go.RowKit
open Go.MapKept (Stamped)

def Ctr.core (s : Ctr) : Int × Int × Int × List (Int × Int) := (s.limit, s.value, s.held, s.holds)
theorem Ctr.ok.like {s s' : Ctr} (ok : s.ok) (h : s'.core = s.core) : s'.ok := by
  obtain ⟨l, v, hh, b, m⟩ := s
  obtain ⟨l', v', hh', b', m'⟩ := s'
  simp only [Ctr.core, Prod.mk.injEq] at h
  obtain ⟨rfl, rfl, rfl, rfl⟩ := h
  exact ⟨ok.v0, ok.h0, ok.sum, ok.cap, ok.all, ok.held⟩
/-- Each counter of T has its like in A. -/
def Sub (A T : All) : Prop := ∀ nm s', mget T nm = some s' → ∃ s, mget A nm = some s ∧ s'.core = s.core
def Same (A T : All) : Prop := Sub A T ∧ ∀ nm s, mget A nm = some s → ∃ s', mget T nm = some s' ∧ s'.core = s.core

/-- A new counter, with its holds, has been stored. -/
theorem mapRes_new' {p mb : Nat} {A : All} {nm : ByteArray} (s : Ctr) (hm : mget A nm = none) {w w' : World} (hR : ((mapRes p mb A).both (holdsRes s.hb s.holds)).R w) (hf : Frm [mb] w w') (hM : MapOf strE ctrV w' mb (mput A nm s)) :
    (mapRes p mb (mput A nm s)).R w' := by
  obtain ⟨hR, hH, hap⟩ := hR
  have hlt := mapRes_lt hR
  obtain ⟨r1, r2, r3, r4⟩ := hR
  have e := (mput_new (mget_none hm)).2.1 s
  rw [e] at hM ⊢
  have hkeep : ∀ x ∈ (mapRes p mb A).fp, x ≠ mb → w'.heap[x]? = w.heap[x]? := fun x hx hn => hf.block x (hlt x hx) (by simpa using hn)
  have r4' := r4
  simp only [List.nodup_cons, List.mem_cons, not_or] at r4'
  have hp : p ≠ s.hb := fun e => hap p (by simp [mapRes]) (by simp [holdsRes, e])
  have hmb : mb ≠ s.hb := fun e => hap mb (by simp [mapRes]) (by simp [holdsRes, e])
  have hbs : ∀ x ∈ blocksOf A, x ≠ s.hb := fun x hx e => hap x (by simp only [mapRes, List.mem_cons]; exact .inr (.inr hx)) (by simp [holdsRes, e])
  have hH' : MapOf intE intV w s.hb s.holds := hH
  refine ⟨(hkeep p (by simp [mapRes]) r4'.1.1).trans r1, hM, fun x hx => ?_, ?_⟩
  · rcases List.mem_append.1 hx with hx | hx
    · exact (r3 x hx).keep (hkeep _ (by simp only [mapRes, blocksOf, List.mem_cons, List.mem_map]; exact .inr (.inr ⟨x, hx, rfl⟩)) fun e => r4'.2.1 (List.mem_map.2 ⟨x, hx, e⟩))
    · simp only [List.mem_cons, List.not_mem_nil, or_false] at hx
      subst hx
      exact hH'.keep (hf.block s.hb hH'.lt (by simp; exact fun e => hmb e.symm))
  · simp only [blocksOf, List.map_append, List.map_cons, List.map_nil, List.nodup_cons, List.mem_cons, List.mem_append, not_or, List.nodup_append, List.not_mem_nil, or_false, not_false_eq_true, List.nodup_nil, true_and] at r4 ⊢
    obtain ⟨⟨q1, q2⟩, q3, q4⟩ := r4
    exact ⟨⟨q1, q2, hp⟩, ⟨q3, hmb⟩, q4, by intro x hx y hy; subst hy; exact hbs x hx⟩

/-- The entries that are still to come. -/
def leftN (es : Array MapEntry) (seen : Array Nat) : Nat := es.toList.countP fun x => !seen.contains x.born
theorem countP_lt {α : Type} {p q : α → Bool} (hpq : ∀ x, q x = true → p x = true) : ∀ {l : List α} {x : α}, x ∈ l → p x = true → q x = false → l.countP q < l.countP p
  | y :: l, x, hx, hp, hq => by
    have hle : l.countP q ≤ l.countP p := List.countP_mono_left fun x _ h => hpq x h
    rcases List.mem_cons.1 hx with rfl | hx
    · have a := List.countP_cons_of_pos (p := p) (l := l) hp
      have b := List.countP_cons_of_neg (p := q) (l := l) (a := x) (by simp [hq])
      omega
    · have ih := countP_lt hpq hx hp hq
      by_cases h : q y = true
      · have a := List.countP_cons_of_pos (p := p) (l := l) (hpq y h)
        have b := List.countP_cons_of_pos (p := q) (l := l) h
        omega
      · by_cases h' : p y = true
        · have a := List.countP_cons_of_pos (p := p) (l := l) h'
          have b := List.countP_cons_of_neg (p := q) (l := l) h
          omega
        · have a := List.countP_cons_of_neg (p := p) (l := l) h'
          have b := List.countP_cons_of_neg (p := q) (l := l) h
          omega
theorem leftN_lt {es : Array MapEntry} {seen : Array Nat} {x : MapEntry} (hx : x ∈ es.toList) (hs : seen.contains x.born = false) : leftN es (seen.push x.born) < leftN es seen := by
  refine countP_lt (fun y h => ?_) hx (by simpa using hs) (by simp)
  simp at h ⊢
  exact h.1

theorem Copy_ok {p mb : Nat} {A : All} {w : World} (hR : (mapRes p mb A).R w) :
    Calls Try.prog 20 #[pV p] w fun e w' => ∃ y : Nat × Nat × All, e = .returned (pV y.1) ∧ Same A y.2.2 ∧ Fresh w w' (mapRes y.1 y.2.1 y.2.2) := by
  have hI : Inv (cx 28 [] [] w) w [0] [⟨59, [.res (mapRes p mb A)], false⟩] := (Inv.nil w).consR (by simp) hR (mapRes_lt hR) (by simp)
  refine calls_sm (cx 28 [] [] w) (vals := [.raw (pV p)]) mixed Try.func20 rfl rfl rfl hI rfl (st rfl ?_); conv => arg 3; whnf
  (repeat (first | (refine n_must rfl ?_; (refine st rfl ?_; conv => arg 3; whnf)) | (refine n_chk (drawF_ok (by decide +kernel)) ?_; (refine st rfl ?_; conv => arg 3; whnf)) | (refine n_same rfl ?_; (refine st rfl ?_; conv => arg 3; whnf)) | (refine n_brT ?_ ?_; (focus (simp <;> fail)); (refine st rfl ?_; conv => arg 3; whnf)) | (refine n_brF ?_ ?_; (focus (simp <;> fail)); (refine st rfl ?_; conv => arg 3; whnf))))
  refine n_callN (fun y : Nat × Nat => mapRes y.1 y.2 []) 59 (fun y => .raw (pV y.1)) (fun y => pV y.1) (fun _ => True) rfl rfl rfl (fun _ => rfl) (fun w1 hI1 => New_ok w1) ?_
  rintro ⟨p', mb'⟩ _ hnew
  (refine st rfl ?_; conv => arg 3; whnf)
  (repeat (first | (refine n_must rfl ?_; (refine st rfl ?_; conv => arg 3; whnf)) | (refine n_chk (drawF_ok (by decide +kernel)) ?_; (refine st rfl ?_; conv => arg 3; whnf)) | (refine n_same rfl ?_; (refine st rfl ?_; conv => arg 3; whnf)) | (refine n_brT ?_ ?_; (focus (simp <;> fail)); (refine st rfl ?_; conv => arg 3; whnf)) | (refine n_brF ?_ ?_; (focus (simp <;> fail)); (refine st rfl ?_; conv => arg 3; whnf))))
  refine n_ldI (.raw (.map (some mb))) rfl rfl (fun _ w1 _ hI1 => mapRes_ld (hI1.res 0 rfl rfl)) ?_
  (refine st rfl ?_; conv => arg 3; whnf)
  (repeat (first | (refine n_must rfl ?_; (refine st rfl ?_; conv => arg 3; whnf)) | (refine n_chk (drawF_ok (by decide +kernel)) ?_; (refine st rfl ?_; conv => arg 3; whnf)) | (refine n_same rfl ?_; (refine st rfl ?_; conv => arg 3; whnf)) | (refine n_brT ?_ ?_; (focus (simp <;> fail)); (refine st rfl ?_; conv => arg 3; whnf)) | (refine n_brF ?_ ?_; (focus (simp <;> fail)); (refine st rfl ?_; conv => arg 3; whnf))))
  refine n_range (E := strE) (ev' := ctrV) 0 (ρ := mapRes p mb A) A 0 rfl rfl rfl rfl rfl rfl rfl (by simp [mapRes]) (fun w h => h.2.1) ?_
  intro es clock it hst hes hit
  (refine st rfl ?_; conv => arg 3; whnf)
  have hpair : ∀ x ∈ es.toList, ∃ nm s, (nm, s) ∈ A ∧ x.key = .string nm ∧ x.val = ctrV s := by
    intro x hx
    have := List.mem_map_of_mem (f := fun x : MapEntry => (x.key, x.val)) hx
    rw [hes] at this
    obtain ⟨⟨nm, s⟩, h1, h2⟩ := List.mem_map.1 this
    simp only [Prod.mk.injEq] at h2
    exact ⟨nm, s, h1, h2.1.symm, h2.2.symm⟩
  have hback : ∀ nm s, (nm, s) ∈ A → ∃ x ∈ es.toList, x.key = .string nm := by
    intro nm s h
    have := List.mem_map_of_mem (f := fun p : ByteArray × Ctr => (strE.ek p.1, ctrV p.2)) h
    rw [← hes] at this
    obtain ⟨x, h1, h2⟩ := List.mem_map.1 this
    simp only [Prod.mk.injEq] at h2
    exact ⟨x, h1, h2.1⟩
  have hnd : (A.map (·.1)).Nodup := hR.2.1.nodup
  refine n_loop (σ := Array Nat × All) (fun s => [(3, .raw (pV p')), (11, .raw (pV it))]) (fun s => [⟨59, [.res (mapAt (mapRes p mb A) mb es clock (by simp [mapRes]))], false⟩, ⟨59, [.res (mapRes p' mb' s.2)], true⟩, ⟨0, [.res (iterRes it mb clock s.1 clock)], true⟩]) (fun s => Sub A s.2 ∧ ∀ x ∈ es.toList, ∀ nm, x.key = .string nm → (s.1.contains x.born = true ↔ ∃ s', mget s.2 nm = some s')) (fun s => leftN es s.1) (#[], []) mixed ⟨fun nm s' h => by simp [mget] at h, fun x _ nm _ => by simp [mget]⟩ (fun _ _ => rfl) rfl (by (repeat (first | exact trivial | refine ⟨⟨rfl, rfl⟩, ?_⟩))) (fun s _ => ⟨by (repeat (first | exact trivial | refine ⟨⟨_, rfl⟩, ?_⟩)), by (repeat (first | exact trivial | refine ⟨⟨_, rfl⟩, ?_⟩))⟩) fun s hJ => ?_
  obtain ⟨seen, T⟩ := s
  obtain ⟨hsub, hseen⟩ := hJ
  dsimp only at hsub hseen ⊢
  (refine st rfl ?_; conv => arg 3; whnf)
  refine n_next 0 2 (es := es) (clock := clock) (ρ := mapRes p mb A) rfl rfl hst rfl rfl rfl rfl rfl rfl (fun hall => ?_) (fun x1 hx1 hns => ?_)
  · (refine st rfl ?_; conv => arg 3; whnf)
    (repeat (first | (refine n_must rfl ?_; (refine st rfl ?_; conv => arg 3; whnf)) | (refine n_chk (drawF_ok (by decide +kernel)) ?_; (refine st rfl ?_; conv => arg 3; whnf)) | (refine n_same rfl ?_; (refine st rfl ?_; conv => arg 3; whnf)) | (refine n_brT ?_ ?_; (focus (simp <;> fail)); (refine st rfl ?_; conv => arg 3; whnf)) | (refine n_brF ?_ ?_; (focus (simp <;> fail)); (refine st rfl ?_; conv => arg 3; whnf))))
    refine n_exit rfl ?_
    (refine st rfl ?_; conv => arg 3; whnf)
    (repeat (first | (refine n_must rfl ?_; (refine st rfl ?_; conv => arg 3; whnf)) | (refine n_chk (drawF_ok (by decide +kernel)) ?_; (refine st rfl ?_; conv => arg 3; whnf)) | (refine n_same rfl ?_; (refine st rfl ?_; conv => arg 3; whnf)) | (refine n_brT ?_ ?_; (focus (simp <;> fail)); (refine st rfl ?_; conv => arg 3; whnf)) | (refine n_brF ?_ ?_; (focus (simp <;> fail)); (refine st rfl ?_; conv => arg 3; whnf))))
    refine n_ret0 rfl rfl fun ids' w' hp hI' => ⟨(p', mb', T), rfl, ⟨hsub, fun nm s h => ?_⟩, hI'.frm, hI'.res 1 rfl rfl, hI'.res_new 1 rfl rfl rfl (by simp), hI'.resLt 1 rfl rfl⟩
    obtain ⟨x, hx, hk⟩ := hback nm s (mget_some h)
    obtain ⟨s', hs'⟩ := (hseen x hx nm hk).1 (hall x hx)
    obtain ⟨s2, h2, h3⟩ := hsub nm s' hs'
    rw [h] at h2
    simp at h2; subst h2
    exact ⟨s', hs', h3⟩
  · obtain ⟨nm, s, hmem, hk, hv⟩ := hpair x1 hx1
    have hTn : mget T nm = none := by
      cases hq : mget T nm with
      | none => rfl
      | some s' => rw [(hseen x1 hx1 nm hk).2 ⟨s', hq⟩] at hns; cases hns
    (refine st rfl ?_; conv => arg 3; whnf)
    (repeat (first | (refine n_must rfl ?_; (refine st rfl ?_; conv => arg 3; whnf)) | (refine n_chk (drawF_ok (by decide +kernel)) ?_; (refine st rfl ?_; conv => arg 3; whnf)) | (refine n_same rfl ?_; (refine st rfl ?_; conv => arg 3; whnf)) | (refine n_brT ?_ ?_; (focus (simp <;> fail)); (refine st rfl ?_; conv => arg 3; whnf)) | (refine n_brF ?_ ?_; (focus (simp <;> fail)); (refine st rfl ?_; conv => arg 3; whnf))))
    refine n_entry 0 2 (es := es) (ρ := mapRes p mb A) x1 (.tup [.str nm, .agg s.sv]) rfl rfl hst hx1 rfl rfl rfl rfl rfl (by rw [hk, hv]; rfl) ?_
    (refine st rfl ?_; conv => arg 3; whnf)
    (repeat (first | (refine n_must rfl ?_; (refine st rfl ?_; conv => arg 3; whnf)) | (refine n_chk (drawF_ok (by decide +kernel)) ?_; (refine st rfl ?_; conv => arg 3; whnf)) | (refine n_same rfl ?_; (refine st rfl ?_; conv => arg 3; whnf)) | (refine n_brT ?_ ?_; (focus (simp <;> fail)); (refine st rfl ?_; conv => arg 3; whnf)) | (refine n_brF ?_ ?_; (focus (simp <;> fail)); (refine st rfl ?_; conv => arg 3; whnf))))
    have hAs : mget A nm = some s := by
      obtain ⟨j, hj, e⟩ := List.getElem_of_mem hmem
      exact (mget_at hnd (p := (nm, s)) (j := j) (by rw [List.getElem?_eq_getElem hj, e])).1
    refine n_call1 rfl fun cb => ?_
    refine n_callN (fun y : Nat => holdsRes y s.holds) 60 (fun y => .raw (.map (some y))) (fun y => .map (some y)) (fun _ => True) rfl rfl rfl (fun _ => rfl) (fun w1 hI1 => Clone_ok ((hI1.res 0 rfl rfl).1.2.2.1 (nm, s) hmem)) ?_
    intro hb' _ hnb
    (refine st rfl ?_; conv => arg 3; whnf)
    (repeat (first | (refine n_must rfl ?_; (refine st rfl ?_; conv => arg 3; whnf)) | (refine n_chk (drawF_ok (by decide +kernel)) ?_; (refine st rfl ?_; conv => arg 3; whnf)) | (refine n_same rfl ?_; (refine st rfl ?_; conv => arg 3; whnf)) | (refine n_brT ?_ ?_; (focus (simp <;> fail)); (refine st rfl ?_; conv => arg 3; whnf)) | (refine n_brF ?_ ?_; (focus (simp <;> fail)); (refine st rfl ?_; conv => arg 3; whnf))))
    refine n_ldDI (.raw (.map (some mb'))) rfl rfl (fun _ w1 _ hI1 => mapRes_ld (hI1.res 1 rfl rfl)) ?_
    (refine st rfl ?_; conv => arg 3; whnf)
    (repeat (first | (refine n_must rfl ?_; (refine st rfl ?_; conv => arg 3; whnf)) | (refine n_chk (drawF_ok (by decide +kernel)) ?_; (refine st rfl ?_; conv => arg 3; whnf)) | (refine n_same rfl ?_; (refine st rfl ?_; conv => arg 3; whnf)) | (refine n_brT ?_ ?_; (focus (simp <;> fail)); (refine st rfl ?_; conv => arg 3; whnf)) | (refine n_brF ?_ ?_; (focus (simp <;> fail)); (refine st rfl ?_; conv => arg 3; whnf))))
    refine n_opI [⟨59, [.res (mapAt (mapRes p mb A) mb es clock (by simp [mapRes]))], false⟩, ⟨59, [.res ((mapRes p' mb' T).both (holdsRes hb' s.holds))], true⟩, ⟨0, [.res (iterRes it mb clock (seen.push x1.born) clock)], true⟩, ⟨62, [.int .i64 s.limit, .int .i64 s.value, .int .i64 s.held, .raw (.map (some hb'))], true⟩, ⟨60, [.res Res.none], true⟩] (fun ids' w1 _ hI1 => hI1.absorb 1 4 (by decide) rfl rfl rfl rfl rfl rfl) ?_
    have hnmok : nm.size ≤ maxLen := hR.2.1.2 (nm, s) hmem
    refine n_mapUpdate (E := strE) (ev' := ctrV) (i := 1) (b := mb') (kr := .str nm) (vr := .agg (Ctr.sv ⟨s.limit, s.value, s.held, hb', s.holds⟩)) (ρ := (mapRes p' mb' T).both (holdsRes hb' s.holds)) (mapRes p' mb' (mput T nm ⟨s.limit, s.value, s.held, hb', s.holds⟩)) T nm ⟨s.limit, s.value, s.held, hb', s.holds⟩ strK rfl rfl rfl rfl rfl rfl hnmok rfl rfl rfl rfl rfl (by simp [Res.both, mapRes]) (by rw [(mput_new (mget_none hTn)).2.1]; simp [Res.both, mapRes, holdsRes]) (fun _ _ _ _ h => by exact h.1.2.1) (fun _ _ _ _ _ hR1 hf1 h => by exact mapRes_new' ⟨s.limit, s.value, s.held, hb', s.holds⟩ hTn hR1 hf1 h) ?_
    (refine st rfl ?_; conv => arg 3; whnf)
    (repeat (first | (refine n_must rfl ?_; (refine st rfl ?_; conv => arg 3; whnf)) | (refine n_chk (drawF_ok (by decide +kernel)) ?_; (refine st rfl ?_; conv => arg 3; whnf)) | (refine n_same rfl ?_; (refine st rfl ?_; conv => arg 3; whnf)) | (refine n_brT ?_ ?_; (focus (simp <;> fail)); (refine st rfl ?_; conv => arg 3; whnf)) | (refine n_brF ?_ ?_; (focus (simp <;> fail)); (refine st rfl ?_; conv => arg 3; whnf))))
    refine n_again ⟨(seen.push x1.born, mput T nm ⟨s.limit, s.value, s.held, hb', s.holds⟩), ⟨?_, ?_⟩, leftN_lt hx1 hns, (by (repeat (first | exact trivial | refine ⟨⟨rfl, rfl⟩, ?_⟩))), ⟨_, rfl⟩⟩
    · intro nm2 s2 h2
      dsimp only at h2
      rw [mget_put] at h2
      split at h2
      · rename_i e
        subst e
        simp at h2; subst h2
        exact ⟨s, hAs, rfl⟩
      · exact hsub nm2 s2 h2
    · intro x hx nm2 hk2
      dsimp only
      rw [mget_put]
      have hst' := (MapKept.stamped_iff es clock).1 hst
      by_cases e : nm = nm2
      · subst e
        have hxx : x = x1 := entry_eq_of_key hst'.2.2 hx hx1 (hk2.trans hk.symm)
        subst hxx
        simp
      · rw [if_neg e, ← hseen x hx nm2 hk2]
        have hb : x.born ≠ x1.born := fun hb => by
          obtain rfl := born_inj hst'.2.1 hx hx1 hb
          rw [hk] at hk2
          injection hk2 with h
          exact e h
        simp [hb]
end Go.Proofs.Yteapjjkgbnnipaa
