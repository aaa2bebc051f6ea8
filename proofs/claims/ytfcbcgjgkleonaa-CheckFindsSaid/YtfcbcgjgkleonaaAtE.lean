/- Package atom: the walk of Do. -/
import Derived.Test.YtfcbcgjgkleonaaBnC
set_option maxRecDepth 100000
set_option linter.unusedSimpArgs false
set_option linter.unusedVariables false
set_option maxHeartbeats 4000000
namespace Go.Proofs.Ytfcbcgjgkleonaa
open Go.RowKit
open Go.Maps (Keyed)

theorem doF_new {A : All} {hn : Nat} {k : Int} {nm : ByteArray} {a b h : Int} : True := trivial
/-- A new counter has been stored. -/
theorem mapRes_new {p mb hn : Nat} {A : All} {nm : ByteArray} (a b : Int) (hm : mget A nm = none) {w w' : World} (hR : ((mapRes p mb A).both (holdsRes hn [])).R w) (hf : Frm [mb] w w') (hM : MapOf strE ctrV w' mb (mput A nm ⟨a, b, 0, hn, []⟩)) :
    (mapRes p mb (mput A nm ⟨a, b, 0, hn, []⟩)).R w' := by
  obtain ⟨hR, hH, hap⟩ := hR
  have hlt := mapRes_lt hR
  obtain ⟨r1, r2, r3, r4⟩ := hR
  have e := (mput_new (mget_none hm)).2.1 (⟨a, b, 0, hn, []⟩ : Ctr)
  rw [e] at hM ⊢
  have hkeep : ∀ x ∈ (mapRes p mb A).fp, x ≠ mb → w'.heap[x]? = w.heap[x]? := fun x hx hn => hf.block x (hlt x hx) (by simpa using hn)
  have r4' := r4
  simp only [List.nodup_cons, List.mem_cons, not_or] at r4'
  have hp : p ≠ hn := fun e => hap p (by simp [mapRes]) (by simp [holdsRes, e])
  have hmb : mb ≠ hn := fun e => hap mb (by simp [mapRes]) (by simp [holdsRes, e])
  have hbs : ∀ x ∈ blocksOf A, x ≠ hn := fun x hx e => hap x (by simp only [mapRes, List.mem_cons]; exact .inr (.inr hx)) (by simp [holdsRes, e])
  have hH' : MapOf intE intV w hn [] := hH
  refine ⟨(hkeep p (by simp [mapRes]) r4'.1.1).trans r1, hM, fun x hx => ?_, ?_⟩
  · rcases List.mem_append.1 hx with hx | hx
    · exact (r3 x hx).keep (hkeep _ (by simp only [mapRes, blocksOf, List.mem_cons, List.mem_map]; exact .inr (.inr ⟨x, hx, rfl⟩)) fun e => r4'.2.1 (List.mem_map.2 ⟨x, hx, e⟩))
    · simp only [List.mem_cons, List.not_mem_nil, or_false] at hx
      subst hx
      exact hH'.keep (hf.block hn hH'.lt (by simp; exact fun e => hmb e.symm))
  · simp only [blocksOf, List.map_append, List.map_cons, List.map_nil, List.nodup_cons, List.mem_cons, List.mem_append, not_or, List.nodup_append, List.not_mem_nil, or_false, not_false_eq_true, List.nodup_nil, true_and] at r4 ⊢
    obtain ⟨⟨q1, q2⟩, q3, q4⟩ := r4
    exact ⟨⟨q1, q2, hp⟩, ⟨q3, hmb⟩, q4, by intro x hx y hy; subst hy; exact hbs x hx⟩

theorem do_fin {p mb : Nat} {A A' : All} {hn : Nat} {k : Int} {nm : ByteArray} {a b h n r : Int} {c : Ctx} {w' : World} {ids' : List Nat} {mem : Mem} {ty : TypeId} (hI' : Inv c w' ids' mem) (hS : c.S = (mapRes p mb A).fp) (hb : nth mem 0 = some ⟨ty, [.res (mapRes p mb A')], true⟩) (he : doF A hn k nm a b h = (A', n, r)) :
    ∃ hn : Nat, Ending.returned (ansV n r) = .returned (ansV (doF A hn k nm a b h).2.1 (doF A hn k nm a b h).2.2) ∧ True ∧ Frm (mapRes p mb A).fp c.w0 w' ∧ (mapRes p mb (doF A hn k nm a b h).1).R w' ∧ (∀ x ∈ (mapRes p mb (doF A hn k nm a b h).1).fp, x ∈ (mapRes p mb A).fp ∨ c.w0.heap.size ≤ x) ∧ ∀ x ∈ (mapRes p mb (doF A hn k nm a b h).1).fp, x < w'.heap.size := by
  refine ⟨hn, ?_⟩
  rw [he]
  exact ⟨rfl, trivial, hS ▸ hI'.frm, hI'.res 0 hb rfl, fun x hx => hS ▸ hI'.own 0 _ hb rfl x (by rw [fpOf_res (r := mapRes p mb A') rfl]; exact hx), hI'.resLt 0 hb rfl⟩

theorem inc_hb (s : Ctr) (x : Int) : (s.inc x).1.hb = s.hb ∧ (s.inc x).1.holds = s.holds := by unfold Ctr.inc; (repeat' split) <;> exact ⟨rfl, rfl⟩
theorem take_hb (s : Ctr) (x y : Int) : (s.take x y).1.hb = s.hb ∧ (s.take x y).1.holds = s.holds := by unfold Ctr.take; (repeat' split) <;> exact ⟨rfl, rfl⟩
theorem reset_hb (s : Ctr) (x : Int) : (s.reset x).1.hb = s.hb ∧ (s.reset x).1.holds = s.holds := by unfold Ctr.reset; (repeat' split) <;> exact ⟨rfl, rfl⟩
theorem recap_hb (s : Ctr) (x : Int) : (s.recap x).1.hb = s.hb ∧ (s.recap x).1.holds = s.holds := by unfold Ctr.recap; (repeat' split) <;> exact ⟨rfl, rfl⟩
theorem right_amount {x : Int} (h : amountB x = true) : 1 ≤ x ∧ x ≤ 1099511627776 := by simpa [amountB] using h

theorem do_err {A : All} {k : Int} {nm : ByteArray} {a b h : Int} {s : Ctr} {R : Ctr × Int × Int} (hm : mget A nm = some s) (hdo : doF A 0 k nm a b h = (mput A nm (actF s k a b h).1, (actF s k a b h).2)) (hx : actF s k a b h = R) (he : R.2.2 ≠ 0) : doF A 0 k nm a b h = (A, 0, R.2.2) ∧ R.1 = s := by
  have := actF_err (s := s) (k := k) (a := a) (b := b) (h := h) (by rw [hx]; exact he)
  rw [hx] at this
  rw [hdo, hx]
  refine ⟨?_, this.1⟩
  rw [this.1, mput_self hm, ← this.2]
theorem do_okay {A : All} {k : Int} {nm : ByteArray} {a b h : Int} {s : Ctr} {R : Ctr × Int × Int} (hdo : doF A 0 k nm a b h = (mput A nm (actF s k a b h).1, (actF s k a b h).2)) (hx : actF s k a b h = R) (he : R.2.2 = 0) : doF A 0 k nm a b h = (mput A nm R.1, R.2.1, 0) := by
  rw [hdo, hx, ← he]
theorem do_err' {A : All} {k : Int} {nm : ByteArray} {a b h : Int} {s : Ctr} {R : Ctr × Int × Int} (hm : mget A nm = some s) (hdo : doF A 0 k nm a b h = (mput A nm (actF s k a b h).1, (actF s k a b h).2)) (hx : actF s k a b h = R) (he : R.2.2 ≠ 0) : doF A 0 k nm a b h = (mput A nm { s with holds := R.1.holds }, 0, R.2.2) := by
  obtain ⟨h1, h2⟩ := do_err hm hdo hx he
  rw [h1, h2, show ({ s with holds := s.holds } : Ctr) = s from rfl, mput_self hm]
theorem do_okay' {A : All} {k : Int} {nm : ByteArray} {a b h : Int} {s : Ctr} {R : Ctr × Int × Int} (hdo : doF A 0 k nm a b h = (mput A nm (actF s k a b h).1, (actF s k a b h).2)) (hx : actF s k a b h = R) (he : R.2.2 = 0) : doF A 0 k nm a b h = (mput (mput A nm { s with holds := R.1.holds }) nm R.1, R.2.1, 0) := by
  rw [do_okay hdo hx he, mput_mput]
theorem hb_mem {p mb : Nat} {A : All} {nm : ByteArray} {s : Ctr} (hm : mget A nm = some s) : s.hb ∈ (mapRes p mb A).fp := by
  simp only [mapRes, blocksOf, List.mem_cons, List.mem_map]
  exact .inr (.inr ⟨_, mget_some hm, rfl⟩)

theorem env_nd2 {x y : Nat × Array Value × TypeId} {w : World} (h : (envRes [x, y]).R w) : y.1 ≠ x.1 := by
  have := h.2
  simp at this
  exact fun e => this e.symm
theorem env_nd3 {x y z : Nat × Array Value × TypeId} {w : World} (h : (envRes [x, y, z]).R w) : y.1 ≠ x.1 ∧ z.1 ≠ x.1 ∧ z.1 ≠ y.1 := by
  have := h.2
  simp at this
  exact ⟨fun e => this.1.1 e.symm, fun e => this.1.2 e.symm, fun e => this.2 e.symm⟩

theorem Do_ok {p mb : Nat} {A : All} {w : World} (hR : (mapRes p mb A).R w) (ok : ∀ x ∈ A, x.2.ok) (k : Int) (nm : ByteArray) (a b h : Int) (hnm : nm.size ≤ maxLen) (ha64 : i64 a) (hh : i64 h) :
    Calls Try.prog 48 #[pV p, .agg (opV k nm a b), .int .i64 h] w fun e w' => ∃ hn : Nat, e = .returned (ansV (doF A hn k nm a b h).2.1 (doF A hn k nm a b h).2.2) ∧ True ∧ Frm (mapRes p mb A).fp w w' ∧ (mapRes p mb (doF A hn k nm a b h).1).R w' ∧ (∀ x ∈ (mapRes p mb (doF A hn k nm a b h).1).fp, x ∈ (mapRes p mb A).fp ∨ w.heap.size ≤ x) ∧ ∀ x ∈ (mapRes p mb (doF A hn k nm a b h).1).fp, x < w'.heap.size := by
  have hI : Inv (cx 86 [(1, .then [(0, []), (1, []), (2, []), (3, []), (4, []), (5, [])] (.fork 6 [] (.of [(7, []), (8, []), (9, []), (10, []), (11, []), (12, [])]) (.cons 10 [5, 3] (.of [(6, []), (7, []), (8, []), (9, []), (11, []), (12, [])])))), (11, .of [(0, []), (1, []), (2, []), (3, []), (4, []), (5, []), (6, []), (7, []), (8, []), (9, []), (10, [9, 7, 5, 3]), (11, []), (12, [])])] (mapRes p mb A).fp w) w [0] [⟨108, [.res (mapRes p mb A)], true⟩] := (Inv.nil w).consR (by simp) hR (mapRes_lt hR) (by simp)
  refine calls_sm (cx 86 [(1, .then [(0, []), (1, []), (2, []), (3, []), (4, []), (5, [])] (.fork 6 [] (.of [(7, []), (8, []), (9, []), (10, []), (11, []), (12, [])]) (.cons 10 [5, 3] (.of [(6, []), (7, []), (8, []), (9, []), (11, []), (12, [])])))), (11, .of [(0, []), (1, []), (2, []), (3, []), (4, []), (5, []), (6, []), (7, []), (8, []), (9, []), (10, [9, 7, 5, 3]), (11, []), (12, [])])] (mapRes p mb A).fp w) (vals := [.raw (pV p), .agg (opS k nm a b), .int .i64 h]) mixed Try.func48 rfl rfl rfl hI rfl (st rfl ?_); conv => arg 3; whnf
  refine gg ?_
  refine n_ldDI (.raw (.map (some mb))) rfl rfl (fun _ w1 _ hI1 => mapRes_ld (hI1.res 0 rfl rfl)) ?_
  (refine gs ?_)
  refine gg ?_
  cases hm : mget A nm with
  | none =>
    refine n_both ?_ ?_
    · (refine gs ?_)
      refine gg ?_
      refine n_lookup (E := strE) (ev' := ctrV) (b := mb) (kr := .str nm) (zr := .agg [.int .i64 0, .int .i64 0, .int .i64 0, .raw (.map none)]) (z := .agg #[.int .i64 0, .int .i64 0, .int .i64 0, .map none]) A nm (.tup [.agg [.int .i64 0, .int .i64 0, .int .i64 0, .raw (.map none)], .bool false]) strK rfl rfl rfl rfl rfl rfl hnm rfl rfl (by rw [hm]; rfl) (fun _ w1 _ hI1 => by exact (hI1.res 0 rfl rfl).2.1) ?_
      (refine gs ?_)
      refine gg ?_
      refine n_sameP (.bool (rightB k nm a b)) rfl rfl rfl (fun _ w1 hp1 hI1 => right_ok k nm a b w1) ?_; (refine gs ?_)
      refine gg ?_
      by_cases hR1 : rightB k nm a b = true
      · by_cases hk : k = 1
        · subst hk
          by_cases hab : a < b
          · have he : doF A 0 1 nm a b h = (A, 0, 61) := by simp [doF, hR1, hm, hab]
            (repeat ((first | refine n_must rfl ?_ | refine n_chk (drawF_ok (by decide +kernel)) ?_ | refine n_same rfl ?_ | ((first | refine n_must ?_ ?_ | refine n_brT ?_ ?_); (focus (first | (simp [hR1, hab]; done) | (simp [hR1, hab]; omega) | (simp only [hR1, hab]; simp; done)))) | (refine n_brF ?_ ?_; (focus (first | (simp [hR1, hab]; done) | (simp [hR1, hab]; omega) | (simp only [hR1, hab]; simp; done)))) | refine n_must (by (with_reducible refine and_shape ?_) <;> kernel_rfl) ?_); (refine gs ?_)))
            exact n_ret0 rfl rfl fun ids' w' hp hI' => do_fin hI' rfl rfl he
          · (repeat ((first | refine n_must rfl ?_ | refine n_chk (drawF_ok (by decide +kernel)) ?_ | refine n_same rfl ?_ | ((first | refine n_must ?_ ?_ | refine n_brT ?_ ?_); (focus (first | (simp [hR1, hab]; done) | (simp [hR1, hab]; omega) | (simp only [hR1, hab]; simp; done)))) | (refine n_brF ?_ ?_; (focus (first | (simp [hR1, hab]; done) | (simp [hR1, hab]; omega) | (simp only [hR1, hab]; simp; done)))) | refine n_must (by (with_reducible refine and_shape ?_) <;> kernel_rfl) ?_); (refine gs ?_)))
            refine n_ldDI (.raw (.map (some mb))) rfl rfl (fun _ w1 _ hI1 => mapRes_ld (hI1.res 0 rfl rfl)) ?_
            (refine gs ?_)
            refine gw ?_
            refine n_op2 rfl fun ob cb => ?_
            refine n_makeMap (fun hb => holdsRes hb []) 123 rfl rfl rfl (fun _ => rfl) (fun w b h => MapOf.empty _ _ h) fun hn hhn => ?_
            (refine gs ?_)
            refine gw ?_
            refine n_ldRI (.raw (.map (some mb))) rfl (fun _ w1 _ hI1 => mapRes_ld (hI1.res 0 rfl rfl)) ?_
            (refine gs ?_)
            refine gw ?_
            refine n_opI [⟨108, [.res ((mapRes p mb A).both (holdsRes hn []))], true⟩, ⟨50, opS 1 nm a b, true⟩, ⟨125, [.int .i64 0, .int .i64 0, .int .i64 0, .raw (.map none)], true⟩, ⟨123, [.res Res.none], true⟩] (fun ids' w1 _ hI1 => hI1.absorb 0 3 (by decide) rfl rfl rfl rfl rfl rfl) ?_
            refine n_mapUpdate (E := strE) (ev' := ctrV) (i := 0) (b := mb) (kr := .str nm) (vr := .agg (Ctr.sv ⟨a, b, 0, hn, []⟩)) (ρ := (mapRes p mb A).both (holdsRes hn [])) (mapRes p mb (mput A nm ⟨a, b, 0, hn, []⟩)) A nm ⟨a, b, 0, hn, []⟩ strK rfl rfl rfl rfl rfl rfl hnm rfl rfl rfl rfl rfl (by simp [Res.both, mapRes]) (by rw [(mput_new (mget_none hm)).2.1]; simp [Res.both, mapRes, holdsRes]) (fun _ _ _ _ h => by exact h.1.2.1) (fun _ _ _ _ _ hR1 hf1 h => by exact mapRes_new a b hm hR1 hf1 h) ?_
            (refine gs ?_)
            refine gw ?_
            have he : doF A hn 1 nm a b h = (mput A nm ⟨a, b, 0, hn, []⟩, 0, 0) := by simp [doF, hR1, hm, hab]
            exact n_ret0 rfl rfl fun ids' w' hp hI' => do_fin hI' rfl rfl he
        · have he : doF A 0 k nm a b h = (A, 0, 100) := by simp [doF, hR1, hm, hk]
          (repeat ((first | refine n_must rfl ?_ | refine n_chk (drawF_ok (by decide +kernel)) ?_ | refine n_same rfl ?_ | ((first | refine n_must ?_ ?_ | refine n_brT ?_ ?_); (focus (first | (simp [hR1, hk]; done) | (simp [hR1, hk]; omega) | (simp only [hR1, hk]; simp; done)))) | (refine n_brF ?_ ?_; (focus (first | (simp [hR1, hk]; done) | (simp [hR1, hk]; omega) | (simp only [hR1, hk]; simp; done)))) | refine n_must (by (with_reducible refine and_shape ?_) <;> kernel_rfl) ?_); (refine gs ?_)))
          exact n_ret0 rfl rfl fun ids' w' hp hI' => do_fin hI' rfl rfl he
      · have he : doF A 0 k nm a b h = (A, 0, 1) := by simp [doF, hR1]
        (repeat ((first | refine n_must rfl ?_ | refine n_chk (drawF_ok (by decide +kernel)) ?_ | refine n_same rfl ?_ | ((first | refine n_must ?_ ?_ | refine n_brT ?_ ?_); (focus (first | (simp [hR1]; done) | (simp [hR1]; omega) | (simp only [hR1]; simp; done)))) | (refine n_brF ?_ ?_; (focus (first | (simp [hR1]; done) | (simp [hR1]; omega) | (simp only [hR1]; simp; done)))) | refine n_must (by (with_reducible refine and_shape ?_) <;> kernel_rfl) ?_); (refine gs ?_)))
        exact n_ret0 rfl rfl fun ids' w' hp hI' => do_fin hI' rfl rfl he
    · (refine gs ?_)
      refine gg ?_
      refine n_ldRI (.raw (.map (some mb))) rfl (fun _ w1 _ hI1 => mapRes_ld (hI1.res 0 rfl rfl)) ?_
      (refine gs ?_)
      refine gg ?_
      refine n_lookup (E := strE) (ev' := ctrV) (b := mb) (kr := .str nm) (zr := .agg [.int .i64 0, .int .i64 0, .int .i64 0, .raw (.map none)]) (z := .agg #[.int .i64 0, .int .i64 0, .int .i64 0, .map none]) A nm (.tup [.agg [.int .i64 0, .int .i64 0, .int .i64 0, .raw (.map none)], .bool false]) strK rfl rfl rfl rfl rfl rfl hnm rfl rfl (by rw [hm]; rfl) (fun _ w1 _ hI1 => by exact (hI1.res 0 rfl rfl).2.1) ?_
      (refine gs ?_)
      refine gg ?_
      refine n_sameP (.bool (rightB k nm a b)) rfl rfl rfl (fun _ w1 hp1 hI1 => right_ok k nm a b w1) ?_; (refine gs ?_)
      refine gg ?_
      by_cases hR1 : rightB k nm a b = true
      · by_cases hk : k = 1
        · subst hk
          by_cases hab : a < b
          · have he : doF A 0 1 nm a b h = (A, 0, 61) := by simp [doF, hR1, hm, hab]
            (repeat ((first | refine n_must rfl ?_ | refine n_chk (drawF_ok (by decide +kernel)) ?_ | refine n_same rfl ?_ | ((first | refine n_must ?_ ?_ | refine n_brT ?_ ?_); (focus (first | (simp [hR1, hab]; done) | (simp [hR1, hab]; omega) | (simp only [hR1, hab]; simp; done)))) | (refine n_brF ?_ ?_; (focus (first | (simp [hR1, hab]; done) | (simp [hR1, hab]; omega) | (simp only [hR1, hab]; simp; done)))) | refine n_must (by (with_reducible refine and_shape ?_) <;> kernel_rfl) ?_); (refine gs ?_)))
            exact n_ret0 rfl rfl fun ids' w' hp hI' => do_fin hI' rfl rfl he
          · (repeat ((first | refine n_must rfl ?_ | refine n_chk (drawF_ok (by decide +kernel)) ?_ | refine n_same rfl ?_ | ((first | refine n_must ?_ ?_ | refine n_brT ?_ ?_); (focus (first | (simp [hR1, hab]; done) | (simp [hR1, hab]; omega) | (simp only [hR1, hab]; simp; done)))) | (refine n_brF ?_ ?_; (focus (first | (simp [hR1, hab]; done) | (simp [hR1, hab]; omega) | (simp only [hR1, hab]; simp; done)))) | refine n_must (by (with_reducible refine and_shape ?_) <;> kernel_rfl) ?_); (refine gs ?_)))
            refine n_ldDI (.raw (.map (some mb))) rfl rfl (fun _ w1 _ hI1 => mapRes_ld (hI1.res 0 rfl rfl)) ?_
            (refine gs ?_)
            refine gw ?_
            refine n_op2 rfl fun ob cb => ?_
            refine n_makeMap (fun hb => holdsRes hb []) 123 rfl rfl rfl (fun _ => rfl) (fun w b h => MapOf.empty _ _ h) fun hn hhn => ?_
            (refine gs ?_)
            refine gw ?_
            refine n_ldRI (.raw (.map (some mb))) rfl (fun _ w1 _ hI1 => mapRes_ld (hI1.res 0 rfl rfl)) ?_
            (refine gs ?_)
            refine gw ?_
            refine n_opI [⟨108, [.res ((mapRes p mb A).both (holdsRes hn []))], true⟩, ⟨50, opS 1 nm a b, true⟩, ⟨125, [.int .i64 0, .int .i64 0, .int .i64 0, .raw (.map none)], true⟩, ⟨123, [.res Res.none], true⟩] (fun ids' w1 _ hI1 => hI1.absorb 0 3 (by decide) rfl rfl rfl rfl rfl rfl) ?_
            refine n_mapUpdate (E := strE) (ev' := ctrV) (i := 0) (b := mb) (kr := .str nm) (vr := .agg (Ctr.sv ⟨a, b, 0, hn, []⟩)) (ρ := (mapRes p mb A).both (holdsRes hn [])) (mapRes p mb (mput A nm ⟨a, b, 0, hn, []⟩)) A nm ⟨a, b, 0, hn, []⟩ strK rfl rfl rfl rfl rfl rfl hnm rfl rfl rfl rfl rfl (by simp [Res.both, mapRes]) (by rw [(mput_new (mget_none hm)).2.1]; simp [Res.both, mapRes, holdsRes]) (fun _ _ _ _ h => by exact h.1.2.1) (fun _ _ _ _ _ hR1 hf1 h => by exact mapRes_new a b hm hR1 hf1 h) ?_
            (refine gs ?_)
            refine gw ?_
            have he : doF A hn 1 nm a b h = (mput A nm ⟨a, b, 0, hn, []⟩, 0, 0) := by simp [doF, hR1, hm, hab]
            exact n_ret0 rfl rfl fun ids' w' hp hI' => do_fin hI' rfl rfl he
        · have he : doF A 0 k nm a b h = (A, 0, 100) := by simp [doF, hR1, hm, hk]
          (repeat ((first | refine n_must rfl ?_ | refine n_chk (drawF_ok (by decide +kernel)) ?_ | refine n_same rfl ?_ | ((first | refine n_must ?_ ?_ | refine n_brT ?_ ?_); (focus (first | (simp [hR1, hk]; done) | (simp [hR1, hk]; omega) | (simp only [hR1, hk]; simp; done)))) | (refine n_brF ?_ ?_; (focus (first | (simp [hR1, hk]; done) | (simp [hR1, hk]; omega) | (simp only [hR1, hk]; simp; done)))) | refine n_must (by (with_reducible refine and_shape ?_) <;> kernel_rfl) ?_); (refine gs ?_)))
          exact n_ret0 rfl rfl fun ids' w' hp hI' => do_fin hI' rfl rfl he
      · have he : doF A 0 k nm a b h = (A, 0, 1) := by simp [doF, hR1]
        (repeat ((first | refine n_must rfl ?_ | refine n_chk (drawF_ok (by decide +kernel)) ?_ | refine n_same rfl ?_ | ((first | refine n_must ?_ ?_ | refine n_brT ?_ ?_); (focus (first | (simp [hR1]; done) | (simp [hR1]; omega) | (simp only [hR1]; simp; done)))) | (refine n_brF ?_ ?_; (focus (first | (simp [hR1]; done) | (simp [hR1]; omega) | (simp only [hR1]; simp; done)))) | refine n_must (by (with_reducible refine and_shape ?_) <;> kernel_rfl) ?_); (refine gs ?_)))
        exact n_ret0 rfl rfl fun ids' w' hp hI' => do_fin hI' rfl rfl he
  | some s =>
    have oks : s.ok := ok _ (mget_some hm)
    refine n_both ?_ ?_
    · (refine gs ?_)
      refine gg ?_
      refine n_lookup (E := strE) (ev' := ctrV) (b := mb) (kr := .str nm) (zr := .agg [.int .i64 0, .int .i64 0, .int .i64 0, .raw (.map none)]) (z := .agg #[.int .i64 0, .int .i64 0, .int .i64 0, .map none]) A nm (.tup [.agg s.sv, .bool true]) strK rfl rfl rfl rfl rfl rfl hnm rfl rfl (by rw [hm]; rfl) (fun _ w1 _ hI1 => by exact (hI1.res 0 rfl rfl).2.1) ?_
      (refine gs ?_)
      refine gg ?_
      refine n_sameP (.bool (rightB k nm a b)) rfl rfl rfl (fun _ w1 hp1 hI1 => right_ok k nm a b w1) ?_; (refine gs ?_)
      refine gg ?_
      by_cases hR1 : rightB k nm a b = true
      · by_cases hk1 : k = 1
        · subst hk1
          have he : doF A 0 1 nm a b h = (A, 0, 101) := by simp [doF, hR1, hm]
          (repeat ((first | refine n_must rfl ?_ | refine n_chk (drawF_ok (by decide +kernel)) ?_ | refine n_same rfl ?_ | ((first | refine n_must ?_ ?_ | refine n_brT ?_ ?_); (focus (first | (simp [hR1]; done) | (simp [hR1]; omega) | (simp only [hR1]; simp; done)))) | (refine n_brF ?_ ?_; (focus (first | (simp [hR1]; done) | (simp [hR1]; omega) | (simp only [hR1]; simp; done)))) | refine n_must (by (with_reducible refine and_shape ?_) <;> kernel_rfl) ?_); (refine gs ?_)))
          exact n_ret0 rfl rfl fun ids' w' hp hI' => do_fin hI' rfl rfl he
        · have hdo : doF A 0 k nm a b h = (mput A nm (actF s k a b h).1, (actF s k a b h).2) := by simp [doF, hR1, hm, hk1]
          (repeat ((first | refine n_must rfl ?_ | refine n_chk (drawF_ok (by decide +kernel)) ?_ | refine n_same rfl ?_ | ((first | refine n_must ?_ ?_ | refine n_brT ?_ ?_); (focus (first | (simp [hR1, hk1]; done) | (simp [hR1, hk1]; omega) | (simp only [hR1, hk1]; simp; done)))) | (refine n_brF ?_ ?_; (focus (first | (simp [hR1, hk1]; done) | (simp [hR1, hk1]; omega) | (simp only [hR1, hk1]; simp; done)))) | refine n_must (by (with_reducible refine and_shape ?_) <;> kernel_rfl) ?_); (refine gs ?_)))
          by_cases hk : k = 2 ∨ k = 3
          · have ha : 1 ≤ a ∧ a ≤ 1099511627776 := by rcases hk with rfl | rfl <;> (simp [rightB] at hR1; exact right_amount hR1.1.1)
            have hx : actF s k a b h = s.inc (if k = 3 then -a else a) := by rcases hk with rfl | rfl <;> simp [actF]
            refine n_call2 rfl fun ob cb => ?_
            refine n_callN (fun y : Nat × Nat => envRes [bX y.1 (if k = 3 then -a else a), bV y.2]) 0 (fun y => .fn (.func 74) [] [.raw (pV y.1), .raw (pV y.2)]) (fun y => .func (.func 74) #[] #[pV y.1, pV y.2]) (fun _ => True) rfl rfl rfl (fun _ => rfl) (fun w1 hI1 => act_inc k nm a b h hk ⟨by omega, ha.2⟩) ?_
            intro y _ hnew
            (refine gs ?_)
            refine gg ?_
            have hX : -1099511627776 ≤ (if k = 3 then -a else a) ∧ (if k = 3 then -a else a) ≤ 1099511627776 := by split <;> omega
            generalize (if k = 3 then -a else a) = X at hx hX hnew
            refine n_updP 2 (ansS (s.inc X).2.1 (s.inc X).2.2) ((s.inc X).1.sv) rfl rfl rfl rfl rfl rfl rfl (fun _ w1 hp1 hI1 => inc_ok s oks X hX (hI1.blk_at hp1 2 rfl rfl rfl) ((hI1.res 3 rfl rfl).1 (bX y.1 X) (by simp)) ((hI1.res 3 rfl rfl).1 (bV y.2) (by simp)) (fun e => hI1.ne_res 2 3 (by decide) rfl (pre_at hp1 (show ([0] ++ [ob, cb] ++ [0])[2]? = some cb from rfl)) rfl rfl rfl (by simp [envRes, ← e])) (fun e => hI1.ne_res 2 3 (by decide) rfl (pre_at hp1 (show ([0] ++ [ob, cb] ++ [0])[2]? = some cb from rfl)) rfl rfl rfl (by simp [envRes, ← e])) (env_nd2 (hI1.res 3 rfl rfl))) ?_; (refine gs ?_)
            refine gg ?_
            refine n_br (fun he => ?_) (fun he => ?_) <;> (refine gs ?_)
            · refine gg ?_
              have he' : (s.inc X).2.2 ≠ 0 := by simpa using he
              exact n_ret0 rfl rfl fun ids' w' hp hI' => do_fin hI' rfl rfl ((fun x => (do_err hm hdo hx x).1) he')
            · have he' : (s.inc X).2.2 = 0 := by simpa using he
              refine gg ?_
              refine n_ldDI (.raw (.map (some mb))) rfl rfl (fun _ w1 _ hI1 => mapRes_ld (hI1.res 0 rfl rfl)) ?_
              (refine gs ?_)
              refine gg ?_
              refine n_mapUpdate (E := strE) (ev' := ctrV) (i := 0) (b := mb) (kr := .str nm) (vr := .agg ((s.inc X).1).sv) (ρ := mapRes p mb A) (mapRes p mb (mput A nm (s.inc X).1)) A nm (s.inc X).1 strK rfl rfl rfl rfl rfl rfl hnm rfl rfl rfl rfl rfl (by simp [mapRes]) (by simp only [mapRes]; rw [blocksOf_put hm (inc_hb s X).1]) (fun _ _ _ _ h => by exact h.2.1) (fun _ _ _ _ _ hR1 hf1 h => by exact mapRes_put hm (inc_hb s X).1 (inc_hb s X).2 hR1 hf1 h) ?_
              (refine gs ?_)
              refine gg ?_
              exact n_ret0 rfl rfl fun ids' w' hp hI' => do_fin hI' rfl rfl ((fun x => do_okay hdo hx x) he')
          by_cases hk4 : k = 4
          · subst hk4
            have ha : 1 ≤ a ∧ a ≤ 1099511627776 := by simp [rightB] at hR1; exact right_amount hR1.1.1
            have hx : actF s 4 a b h = s.hold a h := by simp [actF]
            refine n_call2 rfl fun ob cb => ?_
            refine n_callN (fun y : Nat × Nat × Nat => envRes [bO y.1 4 nm a b, bX y.2.1 h, bV y.2.2]) 0 (fun y => .fn (.func 75) [] [.raw (pV y.1), .raw (pV y.2.1), .raw (pV y.2.2)]) (fun y => .func (.func 75) #[] #[pV y.1, pV y.2.1, pV y.2.2]) (fun _ => True) rfl rfl rfl (fun _ => rfl) (fun w1 hI1 => act_hold nm a b h) ?_
            intro y _ hnew
            (refine gs ?_)
            refine gg ?_
            have hhb : (s.hold a h).1.hb = s.hb := by rw [← hx]; exact actF_hb _ _ _ _ _
            have hm1 : mget (mput A nm { s with holds := (s.hold a h).1.holds }) nm = some { s with holds := (s.hold a h).1.holds } := by rw [mget_put, if_pos rfl]
            have hbl : (mapRes p mb (mput A nm { s with holds := (s.hold a h).1.holds })).fp = (mapRes p mb A).fp := by simp only [mapRes]; rw [blocksOf_put (s' := { s with holds := (s.hold a h).1.holds }) hm rfl]
            refine n_callBR 2 0 (ansS (s.hold a h).2.1 (s.hold a h).2.2) (s.hold a h).1.sv (mapRes p mb (mput A nm { s with holds := (s.hold a h).1.holds })) rfl rfl rfl rfl rfl rfl rfl rfl rfl rfl rfl (fun _ w1 hp1 hI1 hRR => (hold_ok s oks 4 nm a b h hh ⟨by omega, ha.2⟩ (hI1.blk_at hp1 2 rfl rfl rfl) ((hI1.res 3 rfl rfl).1 (bO y.1 4 nm a b) (by simp)) ((hI1.res 3 rfl rfl).1 (bX y.2.1 h) (by simp)) ((hI1.res 3 rfl rfl).1 (bV y.2.2) (by simp)) (hRR.2.2.1 _ (mget_some hm)) (fun e => hI1.ne_res 2 3 (by decide) rfl (pre_at hp1 (show ([0] ++ [ob, cb] ++ [0])[2]? = some cb from rfl)) rfl rfl rfl (by simp [envRes, ← e])) (fun e => hI1.ne_res 2 3 (by decide) rfl (pre_at hp1 (show ([0] ++ [ob, cb] ++ [0])[2]? = some cb from rfl)) rfl rfl rfl (by simp [envRes, ← e])) (env_nd3 (hI1.res 3 rfl rfl)).1 (fun e => hI1.ne_res 2 3 (by decide) rfl (pre_at hp1 (show ([0] ++ [ob, cb] ++ [0])[2]? = some cb from rfl)) rfl rfl rfl (by simp [envRes, ← e])) (env_nd3 (hI1.res 3 rfl rfl)).2.1 (env_nd3 (hI1.res 3 rfl rfl)).2.2 (fun e => hI1.ne_res 2 0 (by decide) rfl (pre_at hp1 (show ([0] ++ [ob, cb] ++ [0])[2]? = some cb from rfl)) rfl rfl rfl (e ▸ hb_mem hm)) (fun e => hI1.res_res 0 3 (by decide) rfl rfl rfl rfl s.hb (hb_mem hm) (by simp [envRes, e])) (fun e => hI1.res_res 0 3 (by decide) rfl rfl rfl rfl s.hb (hb_mem hm) (by simp [envRes, e])) (fun e => hI1.res_res 0 3 (by decide) rfl rfl rfl rfl s.hb (hb_mem hm) (by simp [envRes, e]))).mono fun e w2 ⟨he, hf, hb, hm'⟩ => ⟨he, hf.mono (fun x hx => by simp only [List.mem_cons, List.not_mem_nil, or_false] at hx; rcases hx with rfl | rfl <;> simp [hb_mem hm]), hb, mapRes_holds hm _ hRR hf (hI1.ne_res 2 0 (by decide) rfl (pre_at hp1 (show ([0] ++ [ob, cb] ++ [0])[2]? = some cb from rfl)) rfl rfl rfl) hm', fun x hx => .inl (hbl ▸ hx), fun x hx => Nat.lt_of_lt_of_le (hI1.resLt 0 rfl rfl x (hbl ▸ hx)) hf.size⟩) ?_
            (refine gs ?_)
            refine gg ?_
            refine n_br (fun he => ?_) (fun he => ?_) <;> (refine gs ?_)
            · refine gg ?_
              have he' : (s.hold a h).2.2 ≠ 0 := by simpa using he
              exact n_ret0 rfl rfl fun ids' w' hp hI' => do_fin hI' rfl rfl ((fun x => do_err' hm hdo hx x) he')
            · have he' : (s.hold a h).2.2 = 0 := by simpa using he
              refine gg ?_
              refine n_ldDI (.raw (.map (some mb))) rfl rfl (fun _ w1 _ hI1 => mapRes_ld (hI1.res 0 rfl rfl)) ?_
              (refine gs ?_)
              refine gg ?_
              refine n_mapUpdate (E := strE) (ev' := ctrV) (i := 0) (b := mb) (kr := .str nm) (vr := .agg ((s.hold a h).1).sv) (ρ := mapRes p mb (mput A nm { s with holds := (s.hold a h).1.holds })) (mapRes p mb (mput (mput A nm { s with holds := (s.hold a h).1.holds }) nm (s.hold a h).1)) (mput A nm { s with holds := (s.hold a h).1.holds }) nm (s.hold a h).1 strK rfl rfl rfl rfl rfl rfl hnm rfl rfl rfl rfl rfl (by simp [mapRes]) (by simp only [mapRes]; rw [blocksOf_put hm1 hhb]) (fun _ _ _ _ h => by exact h.2.1) (fun _ _ _ _ _ hR1 hf1 h => by exact mapRes_put hm1 hhb rfl hR1 hf1 h) ?_
              (refine gs ?_)
              refine gg ?_
              exact n_ret0 rfl rfl fun ids' w' hp hI' => do_fin hI' rfl rfl ((fun x => do_okay' hdo hx x) he')
          by_cases hk5 : k = 5 ∨ k = 6 ∨ k = 12
          · have hx : actF s k a b h = s.end_ k a := by rcases hk5 with rfl | rfl | rfl <;> simp [actF]
            refine n_call2 rfl fun ob cb => ?_
            refine n_callN (fun y : Nat × Nat => envRes [bO y.1 k nm a b, bV y.2]) 0 (fun y => .fn (.func 76) [] [.raw (pV y.1), .raw (pV y.2)]) (fun y => .func (.func 76) #[] #[pV y.1, pV y.2]) (fun _ => True) rfl rfl rfl (fun _ => rfl) (fun w1 hI1 => act_end k nm a b h hk5) ?_
            intro y _ hnew
            (refine gs ?_)
            refine gg ?_
            have hhb : (s.end_ k a).1.hb = s.hb := by rw [← hx]; exact actF_hb _ _ _ _ _
            have hm1 : mget (mput A nm { s with holds := (s.end_ k a).1.holds }) nm = some { s with holds := (s.end_ k a).1.holds } := by rw [mget_put, if_pos rfl]
            have hbl : (mapRes p mb (mput A nm { s with holds := (s.end_ k a).1.holds })).fp = (mapRes p mb A).fp := by simp only [mapRes]; rw [blocksOf_put (s' := { s with holds := (s.end_ k a).1.holds }) hm rfl]
            refine n_callBR 2 0 (ansS (s.end_ k a).2.1 (s.end_ k a).2.2) (s.end_ k a).1.sv (mapRes p mb (mput A nm { s with holds := (s.end_ k a).1.holds })) rfl rfl rfl rfl rfl rfl rfl rfl rfl rfl rfl (fun _ w1 hp1 hI1 hRR => (end_ok s oks k nm a b ha64 (hI1.blk_at hp1 2 rfl rfl rfl) ((hI1.res 3 rfl rfl).1 (bO y.1 k nm a b) (by simp)) ((hI1.res 3 rfl rfl).1 (bV y.2) (by simp)) (hRR.2.2.1 _ (mget_some hm)) (fun e => hI1.ne_res 2 3 (by decide) rfl (pre_at hp1 (show ([0] ++ [ob, cb] ++ [0])[2]? = some cb from rfl)) rfl rfl rfl (by simp [envRes, ← e])) (fun e => hI1.ne_res 2 3 (by decide) rfl (pre_at hp1 (show ([0] ++ [ob, cb] ++ [0])[2]? = some cb from rfl)) rfl rfl rfl (by simp [envRes, ← e])) (env_nd2 (hI1.res 3 rfl rfl)) (fun e => hI1.ne_res 2 0 (by decide) rfl (pre_at hp1 (show ([0] ++ [ob, cb] ++ [0])[2]? = some cb from rfl)) rfl rfl rfl (e ▸ hb_mem hm)) (fun e => hI1.res_res 0 3 (by decide) rfl rfl rfl rfl s.hb (hb_mem hm) (by simp [envRes, e])) (fun e => hI1.res_res 0 3 (by decide) rfl rfl rfl rfl s.hb (hb_mem hm) (by simp [envRes, e]))).mono fun e w2 ⟨he, hf, hb, hm'⟩ => ⟨he, hf.mono (fun x hx => by simp only [List.mem_cons, List.not_mem_nil, or_false] at hx; rcases hx with rfl | rfl <;> simp [hb_mem hm]), hb, mapRes_holds hm _ hRR hf (hI1.ne_res 2 0 (by decide) rfl (pre_at hp1 (show ([0] ++ [ob, cb] ++ [0])[2]? = some cb from rfl)) rfl rfl rfl) hm', fun x hx => .inl (hbl ▸ hx), fun x hx => Nat.lt_of_lt_of_le (hI1.resLt 0 rfl rfl x (hbl ▸ hx)) hf.size⟩) ?_
            (refine gs ?_)
            refine gg ?_
            refine n_br (fun he => ?_) (fun he => ?_) <;> (refine gs ?_)
            · refine gg ?_
              have he' : (s.end_ k a).2.2 ≠ 0 := by simpa using he
              exact n_ret0 rfl rfl fun ids' w' hp hI' => do_fin hI' rfl rfl ((fun x => do_err' hm hdo hx x) he')
            · have he' : (s.end_ k a).2.2 = 0 := by simpa using he
              refine gg ?_
              refine n_ldDI (.raw (.map (some mb))) rfl rfl (fun _ w1 _ hI1 => mapRes_ld (hI1.res 0 rfl rfl)) ?_
              (refine gs ?_)
              refine gg ?_
              refine n_mapUpdate (E := strE) (ev' := ctrV) (i := 0) (b := mb) (kr := .str nm) (vr := .agg ((s.end_ k a).1).sv) (ρ := mapRes p mb (mput A nm { s with holds := (s.end_ k a).1.holds })) (mapRes p mb (mput (mput A nm { s with holds := (s.end_ k a).1.holds }) nm (s.end_ k a).1)) (mput A nm { s with holds := (s.end_ k a).1.holds }) nm (s.end_ k a).1 strK rfl rfl rfl rfl rfl rfl hnm rfl rfl rfl rfl rfl (by simp [mapRes]) (by simp only [mapRes]; rw [blocksOf_put hm1 hhb]) (fun _ _ _ _ h => by exact h.2.1) (fun _ _ _ _ _ hR1 hf1 h => by exact mapRes_put hm1 hhb rfl hR1 hf1 h) ?_
              (refine gs ?_)
              refine gg ?_
              exact n_ret0 rfl rfl fun ids' w' hp hI' => do_fin hI' rfl rfl ((fun x => do_okay' hdo hx x) he')
          by_cases hk8 : k = 8
          · subst hk8
            have hb : 1 ≤ b ∧ b ≤ 1099511627776 := by simp [rightB] at hR1; exact right_amount hR1.1.2
            have hx : actF s 8 a b h = s.take a b := by simp [actF]
            refine n_call2 rfl fun ob cb => ?_
            refine n_callN (fun y : Nat × Nat => envRes [bO y.1 8 nm a b, bV y.2]) 0 (fun y => .fn (.func 77) [] [.raw (pV y.1), .raw (pV y.2)]) (fun y => .func (.func 77) #[] #[pV y.1, pV y.2]) (fun _ => True) rfl rfl rfl (fun _ => rfl) (fun w1 hI1 => act_take nm a b h) ?_
            intro y _ hnew
            (refine gs ?_)
            refine gg ?_
            refine n_updP 2 (ansS (s.take a b).2.1 (s.take a b).2.2) ((s.take a b).1.sv) rfl rfl rfl rfl rfl rfl rfl (fun _ w1 hp1 hI1 => take_ok s oks 8 nm a b ⟨by omega, hb.2⟩ (hI1.blk_at hp1 2 rfl rfl rfl) ((hI1.res 3 rfl rfl).1 (bO y.1 8 nm a b) (by simp)) ((hI1.res 3 rfl rfl).1 (bV y.2) (by simp)) (fun e => hI1.ne_res 2 3 (by decide) rfl (pre_at hp1 (show ([0] ++ [ob, cb] ++ [0])[2]? = some cb from rfl)) rfl rfl rfl (by simp [envRes, ← e])) (fun e => hI1.ne_res 2 3 (by decide) rfl (pre_at hp1 (show ([0] ++ [ob, cb] ++ [0])[2]? = some cb from rfl)) rfl rfl rfl (by simp [envRes, ← e])) (env_nd2 (hI1.res 3 rfl rfl))) ?_; (refine gs ?_)
            refine gg ?_
            refine n_br (fun he => ?_) (fun he => ?_) <;> (refine gs ?_)
            · refine gg ?_
              have he' : (s.take a b).2.2 ≠ 0 := by simpa using he
              exact n_ret0 rfl rfl fun ids' w' hp hI' => do_fin hI' rfl rfl ((fun x => (do_err hm hdo hx x).1) he')
            · have he' : (s.take a b).2.2 = 0 := by simpa using he
              refine gg ?_
              refine n_ldDI (.raw (.map (some mb))) rfl rfl (fun _ w1 _ hI1 => mapRes_ld (hI1.res 0 rfl rfl)) ?_
              (refine gs ?_)
              refine gg ?_
              refine n_mapUpdate (E := strE) (ev' := ctrV) (i := 0) (b := mb) (kr := .str nm) (vr := .agg ((s.take a b).1).sv) (ρ := mapRes p mb A) (mapRes p mb (mput A nm (s.take a b).1)) A nm (s.take a b).1 strK rfl rfl rfl rfl rfl rfl hnm rfl rfl rfl rfl rfl (by simp [mapRes]) (by simp only [mapRes]; rw [blocksOf_put hm (take_hb s a b).1]) (fun _ _ _ _ h => by exact h.2.1) (fun _ _ _ _ _ hR1 hf1 h => by exact mapRes_put hm (take_hb s a b).1 (take_hb s a b).2 hR1 hf1 h) ?_
              (refine gs ?_)
              refine gg ?_
              exact n_ret0 rfl rfl fun ids' w' hp hI' => do_fin hI' rfl rfl ((fun x => do_okay hdo hx x) he')
          by_cases hk9 : k = 9
          · subst hk9
            have ha : 0 ≤ a ∧ a ≤ 1099511627776 := by simp [rightB] at hR1; exact hR1.1.1
            have hx : actF s 9 a b h = s.reset a := by simp [actF]
            refine n_call2 rfl fun ob cb => ?_
            refine n_callN (fun y : Nat => envRes [bO y 9 nm a b]) 0 (fun y => .fn (.func 78) [] [.raw (pV y)]) (fun y => .func (.func 78) #[] #[pV y]) (fun _ => True) rfl rfl rfl (fun _ => rfl) (fun w1 hI1 => act_reset nm a b h) ?_
            intro y _ hnew
            (refine gs ?_)
            refine gg ?_
            refine n_updP 2 (ansS (s.reset a).2.1 (s.reset a).2.2) ((s.reset a).1.sv) rfl rfl rfl rfl rfl rfl rfl (fun _ w1 hp1 hI1 => reset_ok s oks 9 nm a b ha (hI1.blk_at hp1 2 rfl rfl rfl) ((hI1.res 3 rfl rfl).1 (bO y 9 nm a b) (by simp)) (fun e => hI1.ne_res 2 3 (by decide) rfl (pre_at hp1 (show ([0] ++ [ob, cb] ++ [0])[2]? = some cb from rfl)) rfl rfl rfl (by simp [envRes, ← e]))) ?_; (refine gs ?_)
            refine gg ?_
            refine n_br (fun he => ?_) (fun he => ?_) <;> (refine gs ?_)
            · refine gg ?_
              have he' : (s.reset a).2.2 ≠ 0 := by simpa using he
              exact n_ret0 rfl rfl fun ids' w' hp hI' => do_fin hI' rfl rfl ((fun x => (do_err hm hdo hx x).1) he')
            · have he' : (s.reset a).2.2 = 0 := by simpa using he
              refine gg ?_
              refine n_ldDI (.raw (.map (some mb))) rfl rfl (fun _ w1 _ hI1 => mapRes_ld (hI1.res 0 rfl rfl)) ?_
              (refine gs ?_)
              refine gg ?_
              refine n_mapUpdate (E := strE) (ev' := ctrV) (i := 0) (b := mb) (kr := .str nm) (vr := .agg ((s.reset a).1).sv) (ρ := mapRes p mb A) (mapRes p mb (mput A nm (s.reset a).1)) A nm (s.reset a).1 strK rfl rfl rfl rfl rfl rfl hnm rfl rfl rfl rfl rfl (by simp [mapRes]) (by simp only [mapRes]; rw [blocksOf_put hm (reset_hb s a).1]) (fun _ _ _ _ h => by exact h.2.1) (fun _ _ _ _ _ hR1 hf1 h => by exact mapRes_put hm (reset_hb s a).1 (reset_hb s a).2 hR1 hf1 h) ?_
              (refine gs ?_)
              refine gg ?_
              exact n_ret0 rfl rfl fun ids' w' hp hI' => do_fin hI' rfl rfl ((fun x => do_okay hdo hx x) he')
          by_cases hk10 : k = 10
          · subst hk10
            have hx : actF s 10 a b h = s.recap a := by simp [actF]
            refine n_call2 rfl fun ob cb => ?_
            refine n_callN (fun y : Nat => envRes [bO y 10 nm a b]) 0 (fun y => .fn (.func 79) [] [.raw (pV y)]) (fun y => .func (.func 79) #[] #[pV y]) (fun _ => True) rfl rfl rfl (fun _ => rfl) (fun w1 hI1 => act_recap nm a b h) ?_
            intro y _ hnew
            (refine gs ?_)
            refine gg ?_
            refine n_updP 2 (ansS (s.recap a).2.1 (s.recap a).2.2) ((s.recap a).1.sv) rfl rfl rfl rfl rfl rfl rfl (fun _ w1 hp1 hI1 => recap_ok s oks 10 nm a b (hI1.blk_at hp1 2 rfl rfl rfl) ((hI1.res 3 rfl rfl).1 (bO y 10 nm a b) (by simp)) (fun e => hI1.ne_res 2 3 (by decide) rfl (pre_at hp1 (show ([0] ++ [ob, cb] ++ [0])[2]? = some cb from rfl)) rfl rfl rfl (by simp [envRes, ← e]))) ?_; (refine gs ?_)
            refine gg ?_
            refine n_br (fun he => ?_) (fun he => ?_) <;> (refine gs ?_)
            · refine gg ?_
              have he' : (s.recap a).2.2 ≠ 0 := by simpa using he
              exact n_ret0 rfl rfl fun ids' w' hp hI' => do_fin hI' rfl rfl ((fun x => (do_err hm hdo hx x).1) he')
            · have he' : (s.recap a).2.2 = 0 := by simpa using he
              refine gg ?_
              refine n_ldDI (.raw (.map (some mb))) rfl rfl (fun _ w1 _ hI1 => mapRes_ld (hI1.res 0 rfl rfl)) ?_
              (refine gs ?_)
              refine gg ?_
              refine n_mapUpdate (E := strE) (ev' := ctrV) (i := 0) (b := mb) (kr := .str nm) (vr := .agg ((s.recap a).1).sv) (ρ := mapRes p mb A) (mapRes p mb (mput A nm (s.recap a).1)) A nm (s.recap a).1 strK rfl rfl rfl rfl rfl rfl hnm rfl rfl rfl rfl rfl (by simp [mapRes]) (by simp only [mapRes]; rw [blocksOf_put hm (recap_hb s a).1]) (fun _ _ _ _ h => by exact h.2.1) (fun _ _ _ _ _ hR1 hf1 h => by exact mapRes_put hm (recap_hb s a).1 (recap_hb s a).2 hR1 hf1 h) ?_
              (refine gs ?_)
              refine gg ?_
              exact n_ret0 rfl rfl fun ids' w' hp hI' => do_fin hI' rfl rfl ((fun x => do_okay hdo hx x) he')
          have hk7 : k = 7 := by
            simp only [not_or] at hk hk5
            refine Classical.byContradiction fun hk7 => ?_
            simp [rightB, hk1, hk.1, hk.2, hk4, hk5.1, hk5.2.1, hk5.2.2, hk8, hk9, hk10, hk7] at hR1
          subst hk7
          have hx : actF s 7 a b h = (s, s.value, 0) := by simp [actF]
          refine n_call2 rfl fun ob cb => ?_
          refine n_sameP (.fn (.func 80) [] []) rfl rfl rfl (fun _ w1 hp1 hI1 => act_read nm a b h) ?_; (refine gs ?_)
          refine gg ?_
          refine n_updP 2 (ansS s.value 0) (s.sv) rfl rfl rfl rfl rfl rfl rfl (fun _ w1 hp1 hI1 => read_ok s (hI1.blk_at hp1 2 rfl rfl rfl)) ?_; (refine gs ?_)
          refine gw ?_
          refine gg ?_
          refine n_ldDI (.raw (.map (some mb))) rfl rfl (fun _ w1 _ hI1 => mapRes_ld (hI1.res 0 rfl rfl)) ?_
          (refine gs ?_)
          refine gg ?_
          refine n_mapUpdate (E := strE) (ev' := ctrV) (i := 0) (b := mb) (kr := .str nm) (vr := .agg (((s, s.value, 0)).1).sv) (ρ := mapRes p mb A) (mapRes p mb (mput A nm ((s, s.value, 0)).1)) A nm ((s, s.value, 0)).1 strK rfl rfl rfl rfl rfl rfl hnm rfl rfl rfl rfl rfl (by simp [mapRes]) (by simp only [mapRes]; rw [blocksOf_put hm rfl]) (fun _ _ _ _ h => by exact h.2.1) (fun _ _ _ _ _ hR1 hf1 h => by exact mapRes_put hm rfl rfl hR1 hf1 h) ?_
          (refine gs ?_)
          refine gg ?_
          exact n_ret0 rfl rfl fun ids' w' hp hI' => do_fin hI' rfl rfl (do_okay (R := (s, s.value, 0)) hdo hx rfl)
      · have he : doF A 0 k nm a b h = (A, 0, 1) := by simp [doF, hR1]
        (repeat ((first | refine n_must rfl ?_ | refine n_chk (drawF_ok (by decide +kernel)) ?_ | refine n_same rfl ?_ | ((first | refine n_must ?_ ?_ | refine n_brT ?_ ?_); (focus (first | (simp [hR1]; done) | (simp [hR1]; omega) | (simp only [hR1]; simp; done)))) | (refine n_brF ?_ ?_; (focus (first | (simp [hR1]; done) | (simp [hR1]; omega) | (simp only [hR1]; simp; done)))) | refine n_must (by (with_reducible refine and_shape ?_) <;> kernel_rfl) ?_); (refine gs ?_)))
        exact n_ret0 rfl rfl fun ids' w' hp hI' => do_fin hI' rfl rfl he
    · (refine gs ?_)
      refine gg ?_
      refine n_ldRI (.raw (.map (some mb))) rfl (fun _ w1 _ hI1 => mapRes_ld (hI1.res 0 rfl rfl)) ?_
      (refine gs ?_)
      refine gg ?_
      refine n_lookup (E := strE) (ev' := ctrV) (b := mb) (kr := .str nm) (zr := .agg [.int .i64 0, .int .i64 0, .int .i64 0, .raw (.map none)]) (z := .agg #[.int .i64 0, .int .i64 0, .int .i64 0, .map none]) A nm (.tup [.agg s.sv, .bool true]) strK rfl rfl rfl rfl rfl rfl hnm rfl rfl (by rw [hm]; rfl) (fun _ w1 _ hI1 => by exact (hI1.res 0 rfl rfl).2.1) ?_
      (refine gs ?_)
      refine gg ?_
      refine n_sameP (.bool (rightB k nm a b)) rfl rfl rfl (fun _ w1 hp1 hI1 => right_ok k nm a b w1) ?_; (refine gs ?_)
      refine gg ?_
      by_cases hR1 : rightB k nm a b = true
      · by_cases hk1 : k = 1
        · subst hk1
          have he : doF A 0 1 nm a b h = (A, 0, 101) := by simp [doF, hR1, hm]
          (repeat ((first | refine n_must rfl ?_ | refine n_chk (drawF_ok (by decide +kernel)) ?_ | refine n_same rfl ?_ | ((first | refine n_must ?_ ?_ | refine n_brT ?_ ?_); (focus (first | (simp [hR1]; done) | (simp [hR1]; omega) | (simp only [hR1]; simp; done)))) | (refine n_brF ?_ ?_; (focus (first | (simp [hR1]; done) | (simp [hR1]; omega) | (simp only [hR1]; simp; done)))) | refine n_must (by (with_reducible refine and_shape ?_) <;> kernel_rfl) ?_); (refine gs ?_)))
          exact n_ret0 rfl rfl fun ids' w' hp hI' => do_fin hI' rfl rfl he
        · have hdo : doF A 0 k nm a b h = (mput A nm (actF s k a b h).1, (actF s k a b h).2) := by simp [doF, hR1, hm, hk1]
          (repeat ((first | refine n_must rfl ?_ | refine n_chk (drawF_ok (by decide +kernel)) ?_ | refine n_same rfl ?_ | ((first | refine n_must ?_ ?_ | refine n_brT ?_ ?_); (focus (first | (simp [hR1, hk1]; done) | (simp [hR1, hk1]; omega) | (simp only [hR1, hk1]; simp; done)))) | (refine n_brF ?_ ?_; (focus (first | (simp [hR1, hk1]; done) | (simp [hR1, hk1]; omega) | (simp only [hR1, hk1]; simp; done)))) | refine n_must (by (with_reducible refine and_shape ?_) <;> kernel_rfl) ?_); (refine gs ?_)))
          by_cases hk : k = 2 ∨ k = 3
          · have ha : 1 ≤ a ∧ a ≤ 1099511627776 := by rcases hk with rfl | rfl <;> (simp [rightB] at hR1; exact right_amount hR1.1.1)
            have hx : actF s k a b h = s.inc (if k = 3 then -a else a) := by rcases hk with rfl | rfl <;> simp [actF]
            refine n_call2 rfl fun ob cb => ?_
            refine n_callN (fun y : Nat × Nat => envRes [bX y.1 (if k = 3 then -a else a), bV y.2]) 0 (fun y => .fn (.func 74) [] [.raw (pV y.1), .raw (pV y.2)]) (fun y => .func (.func 74) #[] #[pV y.1, pV y.2]) (fun _ => True) rfl rfl rfl (fun _ => rfl) (fun w1 hI1 => act_inc k nm a b h hk ⟨by omega, ha.2⟩) ?_
            intro y _ hnew
            (refine gs ?_)
            refine gg ?_
            have hX : -1099511627776 ≤ (if k = 3 then -a else a) ∧ (if k = 3 then -a else a) ≤ 1099511627776 := by split <;> omega
            generalize (if k = 3 then -a else a) = X at hx hX hnew
            refine n_updP 2 (ansS (s.inc X).2.1 (s.inc X).2.2) ((s.inc X).1.sv) rfl rfl rfl rfl rfl rfl rfl (fun _ w1 hp1 hI1 => inc_ok s oks X hX (hI1.blk_at hp1 2 rfl rfl rfl) ((hI1.res 3 rfl rfl).1 (bX y.1 X) (by simp)) ((hI1.res 3 rfl rfl).1 (bV y.2) (by simp)) (fun e => hI1.ne_res 2 3 (by decide) rfl (pre_at hp1 (show ([0] ++ [ob, cb] ++ [0])[2]? = some cb from rfl)) rfl rfl rfl (by simp [envRes, ← e])) (fun e => hI1.ne_res 2 3 (by decide) rfl (pre_at hp1 (show ([0] ++ [ob, cb] ++ [0])[2]? = some cb from rfl)) rfl rfl rfl (by simp [envRes, ← e])) (env_nd2 (hI1.res 3 rfl rfl))) ?_; (refine gs ?_)
            refine gg ?_
            refine n_br (fun he => ?_) (fun he => ?_) <;> (refine gs ?_)
            · refine gg ?_
              have he' : (s.inc X).2.2 ≠ 0 := by simpa using he
              exact n_ret0 rfl rfl fun ids' w' hp hI' => do_fin hI' rfl rfl ((fun x => (do_err hm hdo hx x).1) he')
            · have he' : (s.inc X).2.2 = 0 := by simpa using he
              refine gg ?_
              refine n_ldDI (.raw (.map (some mb))) rfl rfl (fun _ w1 _ hI1 => mapRes_ld (hI1.res 0 rfl rfl)) ?_
              (refine gs ?_)
              refine gg ?_
              refine n_mapUpdate (E := strE) (ev' := ctrV) (i := 0) (b := mb) (kr := .str nm) (vr := .agg ((s.inc X).1).sv) (ρ := mapRes p mb A) (mapRes p mb (mput A nm (s.inc X).1)) A nm (s.inc X).1 strK rfl rfl rfl rfl rfl rfl hnm rfl rfl rfl rfl rfl (by simp [mapRes]) (by simp only [mapRes]; rw [blocksOf_put hm (inc_hb s X).1]) (fun _ _ _ _ h => by exact h.2.1) (fun _ _ _ _ _ hR1 hf1 h => by exact mapRes_put hm (inc_hb s X).1 (inc_hb s X).2 hR1 hf1 h) ?_
              (refine gs ?_)
              refine gg ?_
              exact n_ret0 rfl rfl fun ids' w' hp hI' => do_fin hI' rfl rfl ((fun x => do_okay hdo hx x) he')
          by_cases hk4 : k = 4
          · subst hk4
            have ha : 1 ≤ a ∧ a ≤ 1099511627776 := by simp [rightB] at hR1; exact right_amount hR1.1.1
            have hx : actF s 4 a b h = s.hold a h := by simp [actF]
            refine n_call2 rfl fun ob cb => ?_
            refine n_callN (fun y : Nat × Nat × Nat => envRes [bO y.1 4 nm a b, bX y.2.1 h, bV y.2.2]) 0 (fun y => .fn (.func 75) [] [.raw (pV y.1), .raw (pV y.2.1), .raw (pV y.2.2)]) (fun y => .func (.func 75) #[] #[pV y.1, pV y.2.1, pV y.2.2]) (fun _ => True) rfl rfl rfl (fun _ => rfl) (fun w1 hI1 => act_hold nm a b h) ?_
            intro y _ hnew
            (refine gs ?_)
            refine gg ?_
            have hhb : (s.hold a h).1.hb = s.hb := by rw [← hx]; exact actF_hb _ _ _ _ _
            have hm1 : mget (mput A nm { s with holds := (s.hold a h).1.holds }) nm = some { s with holds := (s.hold a h).1.holds } := by rw [mget_put, if_pos rfl]
            have hbl : (mapRes p mb (mput A nm { s with holds := (s.hold a h).1.holds })).fp = (mapRes p mb A).fp := by simp only [mapRes]; rw [blocksOf_put (s' := { s with holds := (s.hold a h).1.holds }) hm rfl]
            refine n_callBR 2 0 (ansS (s.hold a h).2.1 (s.hold a h).2.2) (s.hold a h).1.sv (mapRes p mb (mput A nm { s with holds := (s.hold a h).1.holds })) rfl rfl rfl rfl rfl rfl rfl rfl rfl rfl rfl (fun _ w1 hp1 hI1 hRR => (hold_ok s oks 4 nm a b h hh ⟨by omega, ha.2⟩ (hI1.blk_at hp1 2 rfl rfl rfl) ((hI1.res 3 rfl rfl).1 (bO y.1 4 nm a b) (by simp)) ((hI1.res 3 rfl rfl).1 (bX y.2.1 h) (by simp)) ((hI1.res 3 rfl rfl).1 (bV y.2.2) (by simp)) (hRR.2.2.1 _ (mget_some hm)) (fun e => hI1.ne_res 2 3 (by decide) rfl (pre_at hp1 (show ([0] ++ [ob, cb] ++ [0])[2]? = some cb from rfl)) rfl rfl rfl (by simp [envRes, ← e])) (fun e => hI1.ne_res 2 3 (by decide) rfl (pre_at hp1 (show ([0] ++ [ob, cb] ++ [0])[2]? = some cb from rfl)) rfl rfl rfl (by simp [envRes, ← e])) (env_nd3 (hI1.res 3 rfl rfl)).1 (fun e => hI1.ne_res 2 3 (by decide) rfl (pre_at hp1 (show ([0] ++ [ob, cb] ++ [0])[2]? = some cb from rfl)) rfl rfl rfl (by simp [envRes, ← e])) (env_nd3 (hI1.res 3 rfl rfl)).2.1 (env_nd3 (hI1.res 3 rfl rfl)).2.2 (fun e => hI1.ne_res 2 0 (by decide) rfl (pre_at hp1 (show ([0] ++ [ob, cb] ++ [0])[2]? = some cb from rfl)) rfl rfl rfl (e ▸ hb_mem hm)) (fun e => hI1.res_res 0 3 (by decide) rfl rfl rfl rfl s.hb (hb_mem hm) (by simp [envRes, e])) (fun e => hI1.res_res 0 3 (by decide) rfl rfl rfl rfl s.hb (hb_mem hm) (by simp [envRes, e])) (fun e => hI1.res_res 0 3 (by decide) rfl rfl rfl rfl s.hb (hb_mem hm) (by simp [envRes, e]))).mono fun e w2 ⟨he, hf, hb, hm'⟩ => ⟨he, hf.mono (fun x hx => by simp only [List.mem_cons, List.not_mem_nil, or_false] at hx; rcases hx with rfl | rfl <;> simp [hb_mem hm]), hb, mapRes_holds hm _ hRR hf (hI1.ne_res 2 0 (by decide) rfl (pre_at hp1 (show ([0] ++ [ob, cb] ++ [0])[2]? = some cb from rfl)) rfl rfl rfl) hm', fun x hx => .inl (hbl ▸ hx), fun x hx => Nat.lt_of_lt_of_le (hI1.resLt 0 rfl rfl x (hbl ▸ hx)) hf.size⟩) ?_
            (refine gs ?_)
            refine gg ?_
            refine n_br (fun he => ?_) (fun he => ?_) <;> (refine gs ?_)
            · refine gg ?_
              have he' : (s.hold a h).2.2 ≠ 0 := by simpa using he
              exact n_ret0 rfl rfl fun ids' w' hp hI' => do_fin hI' rfl rfl ((fun x => do_err' hm hdo hx x) he')
            · have he' : (s.hold a h).2.2 = 0 := by simpa using he
              refine gg ?_
              refine n_ldDI (.raw (.map (some mb))) rfl rfl (fun _ w1 _ hI1 => mapRes_ld (hI1.res 0 rfl rfl)) ?_
              (refine gs ?_)
              refine gg ?_
              refine n_mapUpdate (E := strE) (ev' := ctrV) (i := 0) (b := mb) (kr := .str nm) (vr := .agg ((s.hold a h).1).sv) (ρ := mapRes p mb (mput A nm { s with holds := (s.hold a h).1.holds })) (mapRes p mb (mput (mput A nm { s with holds := (s.hold a h).1.holds }) nm (s.hold a h).1)) (mput A nm { s with holds := (s.hold a h).1.holds }) nm (s.hold a h).1 strK rfl rfl rfl rfl rfl rfl hnm rfl rfl rfl rfl rfl (by simp [mapRes]) (by simp only [mapRes]; rw [blocksOf_put hm1 hhb]) (fun _ _ _ _ h => by exact h.2.1) (fun _ _ _ _ _ hR1 hf1 h => by exact mapRes_put hm1 hhb rfl hR1 hf1 h) ?_
              (refine gs ?_)
              refine gg ?_
              exact n_ret0 rfl rfl fun ids' w' hp hI' => do_fin hI' rfl rfl ((fun x => do_okay' hdo hx x) he')
          by_cases hk5 : k = 5 ∨ k = 6 ∨ k = 12
          · have hx : actF s k a b h = s.end_ k a := by rcases hk5 with rfl | rfl | rfl <;> simp [actF]
            refine n_call2 rfl fun ob cb => ?_
            refine n_callN (fun y : Nat × Nat => envRes [bO y.1 k nm a b, bV y.2]) 0 (fun y => .fn (.func 76) [] [.raw (pV y.1), .raw (pV y.2)]) (fun y => .func (.func 76) #[] #[pV y.1, pV y.2]) (fun _ => True) rfl rfl rfl (fun _ => rfl) (fun w1 hI1 => act_end k nm a b h hk5) ?_
            intro y _ hnew
            (refine gs ?_)
            refine gg ?_
            have hhb : (s.end_ k a).1.hb = s.hb := by rw [← hx]; exact actF_hb _ _ _ _ _
            have hm1 : mget (mput A nm { s with holds := (s.end_ k a).1.holds }) nm = some { s with holds := (s.end_ k a).1.holds } := by rw [mget_put, if_pos rfl]
            have hbl : (mapRes p mb (mput A nm { s with holds := (s.end_ k a).1.holds })).fp = (mapRes p mb A).fp := by simp only [mapRes]; rw [blocksOf_put (s' := { s with holds := (s.end_ k a).1.holds }) hm rfl]
            refine n_callBR 2 0 (ansS (s.end_ k a).2.1 (s.end_ k a).2.2) (s.end_ k a).1.sv (mapRes p mb (mput A nm { s with holds := (s.end_ k a).1.holds })) rfl rfl rfl rfl rfl rfl rfl rfl rfl rfl rfl (fun _ w1 hp1 hI1 hRR => (end_ok s oks k nm a b ha64 (hI1.blk_at hp1 2 rfl rfl rfl) ((hI1.res 3 rfl rfl).1 (bO y.1 k nm a b) (by simp)) ((hI1.res 3 rfl rfl).1 (bV y.2) (by simp)) (hRR.2.2.1 _ (mget_some hm)) (fun e => hI1.ne_res 2 3 (by decide) rfl (pre_at hp1 (show ([0] ++ [ob, cb] ++ [0])[2]? = some cb from rfl)) rfl rfl rfl (by simp [envRes, ← e])) (fun e => hI1.ne_res 2 3 (by decide) rfl (pre_at hp1 (show ([0] ++ [ob, cb] ++ [0])[2]? = some cb from rfl)) rfl rfl rfl (by simp [envRes, ← e])) (env_nd2 (hI1.res 3 rfl rfl)) (fun e => hI1.ne_res 2 0 (by decide) rfl (pre_at hp1 (show ([0] ++ [ob, cb] ++ [0])[2]? = some cb from rfl)) rfl rfl rfl (e ▸ hb_mem hm)) (fun e => hI1.res_res 0 3 (by decide) rfl rfl rfl rfl s.hb (hb_mem hm) (by simp [envRes, e])) (fun e => hI1.res_res 0 3 (by decide) rfl rfl rfl rfl s.hb (hb_mem hm) (by simp [envRes, e]))).mono fun e w2 ⟨he, hf, hb, hm'⟩ => ⟨he, hf.mono (fun x hx => by simp only [List.mem_cons, List.not_mem_nil, or_false] at hx; rcases hx with rfl | rfl <;> simp [hb_mem hm]), hb, mapRes_holds hm _ hRR hf (hI1.ne_res 2 0 (by decide) rfl (pre_at hp1 (show ([0] ++ [ob, cb] ++ [0])[2]? = some cb from rfl)) rfl rfl rfl) hm', fun x hx => .inl (hbl ▸ hx), fun x hx => Nat.lt_of_lt_of_le (hI1.resLt 0 rfl rfl x (hbl ▸ hx)) hf.size⟩) ?_
            (refine gs ?_)
            refine gg ?_
            refine n_br (fun he => ?_) (fun he => ?_) <;> (refine gs ?_)
            · refine gg ?_
              have he' : (s.end_ k a).2.2 ≠ 0 := by simpa using he
              exact n_ret0 rfl rfl fun ids' w' hp hI' => do_fin hI' rfl rfl ((fun x => do_err' hm hdo hx x) he')
            · have he' : (s.end_ k a).2.2 = 0 := by simpa using he
              refine gg ?_
              refine n_ldDI (.raw (.map (some mb))) rfl rfl (fun _ w1 _ hI1 => mapRes_ld (hI1.res 0 rfl rfl)) ?_
              (refine gs ?_)
              refine gg ?_
              refine n_mapUpdate (E := strE) (ev' := ctrV) (i := 0) (b := mb) (kr := .str nm) (vr := .agg ((s.end_ k a).1).sv) (ρ := mapRes p mb (mput A nm { s with holds := (s.end_ k a).1.holds })) (mapRes p mb (mput (mput A nm { s with holds := (s.end_ k a).1.holds }) nm (s.end_ k a).1)) (mput A nm { s with holds := (s.end_ k a).1.holds }) nm (s.end_ k a).1 strK rfl rfl rfl rfl rfl rfl hnm rfl rfl rfl rfl rfl (by simp [mapRes]) (by simp only [mapRes]; rw [blocksOf_put hm1 hhb]) (fun _ _ _ _ h => by exact h.2.1) (fun _ _ _ _ _ hR1 hf1 h => by exact mapRes_put hm1 hhb rfl hR1 hf1 h) ?_
              (refine gs ?_)
              refine gg ?_
              exact n_ret0 rfl rfl fun ids' w' hp hI' => do_fin hI' rfl rfl ((fun x => do_okay' hdo hx x) he')
          by_cases hk8 : k = 8
          · subst hk8
            have hb : 1 ≤ b ∧ b ≤ 1099511627776 := by simp [rightB] at hR1; exact right_amount hR1.1.2
            have hx : actF s 8 a b h = s.take a b := by simp [actF]
            refine n_call2 rfl fun ob cb => ?_
            refine n_callN (fun y : Nat × Nat => envRes [bO y.1 8 nm a b, bV y.2]) 0 (fun y => .fn (.func 77) [] [.raw (pV y.1), .raw (pV y.2)]) (fun y => .func (.func 77) #[] #[pV y.1, pV y.2]) (fun _ => True) rfl rfl rfl (fun _ => rfl) (fun w1 hI1 => act_take nm a b h) ?_
            intro y _ hnew
            (refine gs ?_)
            refine gg ?_
            refine n_updP 2 (ansS (s.take a b).2.1 (s.take a b).2.2) ((s.take a b).1.sv) rfl rfl rfl rfl rfl rfl rfl (fun _ w1 hp1 hI1 => take_ok s oks 8 nm a b ⟨by omega, hb.2⟩ (hI1.blk_at hp1 2 rfl rfl rfl) ((hI1.res 3 rfl rfl).1 (bO y.1 8 nm a b) (by simp)) ((hI1.res 3 rfl rfl).1 (bV y.2) (by simp)) (fun e => hI1.ne_res 2 3 (by decide) rfl (pre_at hp1 (show ([0] ++ [ob, cb] ++ [0])[2]? = some cb from rfl)) rfl rfl rfl (by simp [envRes, ← e])) (fun e => hI1.ne_res 2 3 (by decide) rfl (pre_at hp1 (show ([0] ++ [ob, cb] ++ [0])[2]? = some cb from rfl)) rfl rfl rfl (by simp [envRes, ← e])) (env_nd2 (hI1.res 3 rfl rfl))) ?_; (refine gs ?_)
            refine gg ?_
            refine n_br (fun he => ?_) (fun he => ?_) <;> (refine gs ?_)
            · refine gg ?_
              have he' : (s.take a b).2.2 ≠ 0 := by simpa using he
              exact n_ret0 rfl rfl fun ids' w' hp hI' => do_fin hI' rfl rfl ((fun x => (do_err hm hdo hx x).1) he')
            · have he' : (s.take a b).2.2 = 0 := by simpa using he
              refine gg ?_
              refine n_ldDI (.raw (.map (some mb))) rfl rfl (fun _ w1 _ hI1 => mapRes_ld (hI1.res 0 rfl rfl)) ?_
              (refine gs ?_)
              refine gg ?_
              refine n_mapUpdate (E := strE) (ev' := ctrV) (i := 0) (b := mb) (kr := .str nm) (vr := .agg ((s.take a b).1).sv) (ρ := mapRes p mb A) (mapRes p mb (mput A nm (s.take a b).1)) A nm (s.take a b).1 strK rfl rfl rfl rfl rfl rfl hnm rfl rfl rfl rfl rfl (by simp [mapRes]) (by simp only [mapRes]; rw [blocksOf_put hm (take_hb s a b).1]) (fun _ _ _ _ h => by exact h.2.1) (fun _ _ _ _ _ hR1 hf1 h => by exact mapRes_put hm (take_hb s a b).1 (take_hb s a b).2 hR1 hf1 h) ?_
              (refine gs ?_)
              refine gg ?_
              exact n_ret0 rfl rfl fun ids' w' hp hI' => do_fin hI' rfl rfl ((fun x => do_okay hdo hx x) he')
          by_cases hk9 : k = 9
          · subst hk9
            have ha : 0 ≤ a ∧ a ≤ 1099511627776 := by simp [rightB] at hR1; exact hR1.1.1
            have hx : actF s 9 a b h = s.reset a := by simp [actF]
            refine n_call2 rfl fun ob cb => ?_
            refine n_callN (fun y : Nat => envRes [bO y 9 nm a b]) 0 (fun y => .fn (.func 78) [] [.raw (pV y)]) (fun y => .func (.func 78) #[] #[pV y]) (fun _ => True) rfl rfl rfl (fun _ => rfl) (fun w1 hI1 => act_reset nm a b h) ?_
            intro y _ hnew
            (refine gs ?_)
            refine gg ?_
            refine n_updP 2 (ansS (s.reset a).2.1 (s.reset a).2.2) ((s.reset a).1.sv) rfl rfl rfl rfl rfl rfl rfl (fun _ w1 hp1 hI1 => reset_ok s oks 9 nm a b ha (hI1.blk_at hp1 2 rfl rfl rfl) ((hI1.res 3 rfl rfl).1 (bO y 9 nm a b) (by simp)) (fun e => hI1.ne_res 2 3 (by decide) rfl (pre_at hp1 (show ([0] ++ [ob, cb] ++ [0])[2]? = some cb from rfl)) rfl rfl rfl (by simp [envRes, ← e]))) ?_; (refine gs ?_)
            refine gg ?_
            refine n_br (fun he => ?_) (fun he => ?_) <;> (refine gs ?_)
            · refine gg ?_
              have he' : (s.reset a).2.2 ≠ 0 := by simpa using he
              exact n_ret0 rfl rfl fun ids' w' hp hI' => do_fin hI' rfl rfl ((fun x => (do_err hm hdo hx x).1) he')
            · have he' : (s.reset a).2.2 = 0 := by simpa using he
              refine gg ?_
              refine n_ldDI (.raw (.map (some mb))) rfl rfl (fun _ w1 _ hI1 => mapRes_ld (hI1.res 0 rfl rfl)) ?_
              (refine gs ?_)
              refine gg ?_
              refine n_mapUpdate (E := strE) (ev' := ctrV) (i := 0) (b := mb) (kr := .str nm) (vr := .agg ((s.reset a).1).sv) (ρ := mapRes p mb A) (mapRes p mb (mput A nm (s.reset a).1)) A nm (s.reset a).1 strK rfl rfl rfl rfl rfl rfl hnm rfl rfl rfl rfl rfl (by simp [mapRes]) (by simp only [mapRes]; rw [blocksOf_put hm (reset_hb s a).1]) (fun _ _ _ _ h => by exact h.2.1) (fun _ _ _ _ _ hR1 hf1 h => by exact mapRes_put hm (reset_hb s a).1 (reset_hb s a).2 hR1 hf1 h) ?_
              (refine gs ?_)
              refine gg ?_
              exact n_ret0 rfl rfl fun ids' w' hp hI' => do_fin hI' rfl rfl ((fun x => do_okay hdo hx x) he')
          by_cases hk10 : k = 10
          · subst hk10
            have hx : actF s 10 a b h = s.recap a := by simp [actF]
            refine n_call2 rfl fun ob cb => ?_
            refine n_callN (fun y : Nat => envRes [bO y 10 nm a b]) 0 (fun y => .fn (.func 79) [] [.raw (pV y)]) (fun y => .func (.func 79) #[] #[pV y]) (fun _ => True) rfl rfl rfl (fun _ => rfl) (fun w1 hI1 => act_recap nm a b h) ?_
            intro y _ hnew
            (refine gs ?_)
            refine gg ?_
            refine n_updP 2 (ansS (s.recap a).2.1 (s.recap a).2.2) ((s.recap a).1.sv) rfl rfl rfl rfl rfl rfl rfl (fun _ w1 hp1 hI1 => recap_ok s oks 10 nm a b (hI1.blk_at hp1 2 rfl rfl rfl) ((hI1.res 3 rfl rfl).1 (bO y 10 nm a b) (by simp)) (fun e => hI1.ne_res 2 3 (by decide) rfl (pre_at hp1 (show ([0] ++ [ob, cb] ++ [0])[2]? = some cb from rfl)) rfl rfl rfl (by simp [envRes, ← e]))) ?_; (refine gs ?_)
            refine gg ?_
            refine n_br (fun he => ?_) (fun he => ?_) <;> (refine gs ?_)
            · refine gg ?_
              have he' : (s.recap a).2.2 ≠ 0 := by simpa using he
              exact n_ret0 rfl rfl fun ids' w' hp hI' => do_fin hI' rfl rfl ((fun x => (do_err hm hdo hx x).1) he')
            · have he' : (s.recap a).2.2 = 0 := by simpa using he
              refine gg ?_
              refine n_ldDI (.raw (.map (some mb))) rfl rfl (fun _ w1 _ hI1 => mapRes_ld (hI1.res 0 rfl rfl)) ?_
              (refine gs ?_)
              refine gg ?_
              refine n_mapUpdate (E := strE) (ev' := ctrV) (i := 0) (b := mb) (kr := .str nm) (vr := .agg ((s.recap a).1).sv) (ρ := mapRes p mb A) (mapRes p mb (mput A nm (s.recap a).1)) A nm (s.recap a).1 strK rfl rfl rfl rfl rfl rfl hnm rfl rfl rfl rfl rfl (by simp [mapRes]) (by simp only [mapRes]; rw [blocksOf_put hm (recap_hb s a).1]) (fun _ _ _ _ h => by exact h.2.1) (fun _ _ _ _ _ hR1 hf1 h => by exact mapRes_put hm (recap_hb s a).1 (recap_hb s a).2 hR1 hf1 h) ?_
              (refine gs ?_)
              refine gg ?_
              exact n_ret0 rfl rfl fun ids' w' hp hI' => do_fin hI' rfl rfl ((fun x => do_okay hdo hx x) he')
          have hk7 : k = 7 := by
            simp only [not_or] at hk hk5
            refine Classical.byContradiction fun hk7 => ?_
            simp [rightB, hk1, hk.1, hk.2, hk4, hk5.1, hk5.2.1, hk5.2.2, hk8, hk9, hk10, hk7] at hR1
          subst hk7
          have hx : actF s 7 a b h = (s, s.value, 0) := by simp [actF]
          refine n_call2 rfl fun ob cb => ?_
          refine n_sameP (.fn (.func 80) [] []) rfl rfl rfl (fun _ w1 hp1 hI1 => act_read nm a b h) ?_; (refine gs ?_)
          refine gg ?_
          refine n_updP 2 (ansS s.value 0) (s.sv) rfl rfl rfl rfl rfl rfl rfl (fun _ w1 hp1 hI1 => read_ok s (hI1.blk_at hp1 2 rfl rfl rfl)) ?_; (refine gs ?_)
          refine gw ?_
          refine gg ?_
          refine n_ldDI (.raw (.map (some mb))) rfl rfl (fun _ w1 _ hI1 => mapRes_ld (hI1.res 0 rfl rfl)) ?_
          (refine gs ?_)
          refine gg ?_
          refine n_mapUpdate (E := strE) (ev' := ctrV) (i := 0) (b := mb) (kr := .str nm) (vr := .agg (((s, s.value, 0)).1).sv) (ρ := mapRes p mb A) (mapRes p mb (mput A nm ((s, s.value, 0)).1)) A nm ((s, s.value, 0)).1 strK rfl rfl rfl rfl rfl rfl hnm rfl rfl rfl rfl rfl (by simp [mapRes]) (by simp only [mapRes]; rw [blocksOf_put hm rfl]) (fun _ _ _ _ h => by exact h.2.1) (fun _ _ _ _ _ hR1 hf1 h => by exact mapRes_put hm rfl rfl hR1 hf1 h) ?_
          (refine gs ?_)
          refine gg ?_
          exact n_ret0 rfl rfl fun ids' w' hp hI' => do_fin hI' rfl rfl (do_okay (R := (s, s.value, 0)) hdo hx rfl)
      · have he : doF A 0 k nm a b h = (A, 0, 1) := by simp [doF, hR1]
        (repeat ((first | refine n_must rfl ?_ | refine n_chk (drawF_ok (by decide +kernel)) ?_ | refine n_same rfl ?_ | ((first | refine n_must ?_ ?_ | refine n_brT ?_ ?_); (focus (first | (simp [hR1]; done) | (simp [hR1]; omega) | (simp only [hR1]; simp; done)))) | (refine n_brF ?_ ?_; (focus (first | (simp [hR1]; done) | (simp [hR1]; omega) | (simp only [hR1]; simp; done)))) | refine n_must (by (with_reducible refine and_shape ?_) <;> kernel_rfl) ?_); (refine gs ?_)))
        exact n_ret0 rfl rfl fun ids' w' hp hI' => do_fin hI' rfl rfl he
end Go.Proofs.Ytfcbcgjgkleonaa
