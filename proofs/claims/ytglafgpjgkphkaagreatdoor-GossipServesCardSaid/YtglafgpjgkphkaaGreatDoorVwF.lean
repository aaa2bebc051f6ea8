/- Package views: Digest. -/
import Derived.Test.YtglafgpjgkphkaaGreatDoorBnGn
import Derived.Test.YtglafgpjgkphkaaGreatDoorBnVb
import Derived.Test.YtglafgpjgkphkaaGreatDoorBnZ
import Derived.Shelf.SlSortCmp.NoneTotal
set_option maxRecDepth 100000
set_option linter.unusedSimpArgs false
set_option linter.unusedVariables false
set_option maxHeartbeats 8000000
namespace Go.Proofs.YtglafgpjgkphkaaGreatDoor
open Go.RowKit

/-! ### Entries in the order in which they come -/
def seenL (xs : List MapEntry) : Array Nat := (xs.map (·.born)).toArray
theorem seenL_push (xs : List MapEntry) (x : MapEntry) : (seenL xs).push x.born = seenL (xs ++ [x]) := by unfold seenL; simp
theorem seen_new {xs : List MapEntry} {x : MapEntry} (h : (seenL xs).contains x.born = false) : x ∉ xs := by
  intro hx
  have : (seenL xs).contains x.born = true := by
    unfold seenL
    simp
    exact ⟨x, hx, rfl⟩
  rw [this] at h; cases h
theorem seen_perm {es : Array MapEntry} {clock : Nat} (hst : MapKept.Stamped es clock) {xs : List MapEntry} (hnd : xs.Nodup) (hsub : ∀ x ∈ xs, x ∈ es.toList) (hall : ∀ x ∈ es.toList, (seenL xs).contains x.born = true) : xs.Perm es.toList := by
  refine (List.perm_ext_iff_of_nodup hnd (born_nodup hst)).2 fun x => ⟨hsub x, fun hx => ?_⟩
  have := hall x hx
  unfold seenL at this
  simp at this
  obtain ⟨y, hy, e⟩ := this
  have := born_inj ((MapKept.stamped_iff es clock).1 hst).2.1 (hsub y hy) hx e
  rw [← this]; exact hy

theorem nodup_le {α : Type} : ∀ {l m : List α}, l.Nodup → (∀ x ∈ l, x ∈ m) → l.length ≤ m.length
  | [], _, _, _ => Nat.zero_le _
  | x :: l, m, hn, h => by
    rw [List.nodup_cons] at hn
    obtain ⟨a, b, rfl⟩ := List.append_of_mem (h x (by simp))
    have := nodup_le (m := a ++ b) hn.2 fun y hy => by
      have h1 := h y (by simp [hy])
      have h2 : y ≠ x := fun e => hn.1 (e ▸ hy)
      simp [h2] at h1
      simpa using h1
    simp at this ⊢
    omega

/-! ### The views of its own -/
def rOfK : Value → Int
  | .agg cs => match (cs[0]? : Option Value) with | some (Value.int _ n) => n | _ => 0
  | _ => 0
def iOfV : Value → Int
  | .int _ n => n
  | _ => 0
def sOfV : Value → ByteArray
  | .string s => s
  | _ => default
def vwOfV : Value → Vw
  | .agg cs => ⟨sOfV (cs.getD 0 Go.undef), iOfV (cs.getD 1 Go.undef), iOfV (cs.getD 2 Go.undef), iOfV (cs.getD 3 Go.undef), iOfV (cs.getD 4 Go.undef), iOfV (cs.getD 5 Go.undef), iOfV (cs.getD 6 Go.undef)⟩
  | _ => Vw.zero
theorem vw_back (v : Vw) : vwOfV v.val = v := rfl
def pickE (me : Int) (x : MapEntry) : Option Vw := if rOfK x.key = me then some (vwOfV x.val) else none
def pickL (me : Int) (xs : List MapEntry) : List Vw := xs.filterMap (pickE me)
theorem pick_add (me : Int) (xs : List MapEntry) (x : MapEntry) : pickL me (xs ++ [x]) = pickL me xs ++ (pickE me x).toList := by
  unfold pickL
  rw [List.filterMap_append]
  congr 1
theorem pick_len (me : Int) (xs : List MapEntry) : (pickL me xs).length ≤ xs.length := List.length_filterMap_le _ _
theorem pick_all {es : Array MapEntry} {V : List ((Int × ByteArray) × Vw)} (h : es.toList.map (fun x => (x.key, x.val)) = V.map (fun p => (keyE.ek p.1, vwV p.2))) (me : Int) : pickL me es.toList = mineL me V := by
  have key : ∀ (l : List MapEntry) (V : List ((Int × ByteArray) × Vw)), l.map (fun x => (x.key, x.val)) = V.map (fun p => (keyE.ek p.1, vwV p.2)) → pickL me l = mineL me V := by
    intro l
    induction l with
    | nil =>
      intro V h
      cases V with
      | nil => rfl
      | cons _ _ => simp at h
    | cons x l ih =>
      intro V h
      cases V with
      | nil => simp at h
      | cons p V =>
        simp only [List.map_cons, List.cons.injEq, Prod.mk.injEq] at h
        have ih := ih V h.2
        have e1 : rOfK x.key = p.1.1 := by rw [h.1.1]; rfl
        have e2 : vwOfV x.val = p.2 := by rw [h.1.2]; rfl
        unfold pickL mineL at ih ⊢
        rw [List.filterMap_cons, List.filter_cons]
        unfold pickE at ih ⊢
        rw [e1, e2]
        by_cases hp : p.1.1 = me
        · rw [if_pos hp]
          simp only [hp, decide_true, if_true, List.map_cons]
          rw [ih]
        · rw [if_neg hp]
          simp only [hp, decide_false]
          exact ih
  exact key _ _ h
theorem Digest_ok {p mb nb : Nat} {s : Vs} {w : World} (hR : (viewsRes p mb nb s).R w) (hl : s.V.length ≤ 1000000) (hne : (mineL s.me s.V).Pairwise fun a b => a.nm ≠ b.nm) :
    Calls Tryz.prog 23 #[pV p] w fun e w' => ∃ y : (Option Addr × Nat) × List Vw, e = .returned (.slice y.1.1 y.2.length y.1.2) ∧ (y.2.Perm (mineL s.me s.V) ∧ RisV y.2) ∧ FreshR w w' (vRow y.1.1 y.2.length y.1.2 (vws y.2)) := by
  obtain ⟨itt, hitt, hpt⟩ := Option.map_eq_some_iff.1 infoVw
  simp only [Prod.mk.injEq] at hpt
  have hI : Inv (cx 30 [] [] w) w [0] [⟨97, [.res (viewsRes p mb nb s)], false⟩] := (Inv.nil w).consR (by simp) hR (viewsRes_lt hR) (by simp)
  refine calls_sm (cx 30 [] [] w) (vals := [.raw (pV p)]) mixed Tryz.func23 rfl rfl rfl hI rfl (st rfl ?_); conv => arg 3; whnf
  refine gg ?_
  refine n_ldI (.raw (.map (some mb))) rfl rfl (fun _ w1 _ hI1 => load_cell aggVMap (blk_at (hI1.res 0 rfl rfl).1 (j := 2) rfl rfl)) ?_
  (refine gs ?_)
  refine gg ?_
  refine n_range (E := keyE) (ev' := vwV) 0 (ρ := viewsRes p mb nb s) s.V 0 rfl rfl rfl rfl rfl rfl rfl (by simp [viewsRes]) (fun w h => h.2.1) ?_
  intro es clock it hst hes hit
  (refine gs ?_)
  have hpair : ∀ x ∈ es.toList, ∃ r n v, x.key = .agg #[.int .i64 r, .string n] ∧ x.val = Vw.val v := by
    intro x hx
    have := List.mem_map_of_mem (f := fun x : MapEntry => (x.key, x.val)) hx
    rw [hes] at this
    obtain ⟨⟨⟨r, n⟩, v⟩, h1, h2⟩ := List.mem_map.1 this
    simp only [Prod.mk.injEq] at h2
    exact ⟨r, n, v, h2.1.symm, h2.2.symm⟩
  have hel : es.toList.length = s.V.length := by have := congrArg List.length hes; simpa using this
  have hpk := pick_all hes s.me
  refine n_loopX [0] ([⟨97, [.res (mapAt (viewsRes p mb nb s) mb es clock (by simp [viewsRes]))], false⟩, ⟨0, [.res (iterRes it mb clock (seenL ((([], (none, 0)) : List MapEntry × (Option Addr × Nat))).1) clock)], true⟩, ⟨104, [.res (vRow ((([], (none, 0)) : List MapEntry × (Option Addr × Nat))).2.1 (pickL s.me ((([], (none, 0)) : List MapEntry × (Option Addr × Nat))).1).length ((([], (none, 0)) : List MapEntry × (Option Addr × Nat))).2.2 (vws (pickL s.me ((([], (none, 0)) : List MapEntry × (Option Addr × Nat))).1)))], true⟩]) rfl (fun w1 hI1 => ?_) ?_
  · exact hI1.addR (Frm.refl [] w1) (vRow none 0 0 []) 104 true (rowRes_nil _ _ _) (by simp [rowRes]) (by simp [rowRes])
  refine n_loop (σ := List MapEntry × (Option Addr × Nat)) (fun t => [(0, .raw (pV p)), (3, .raw (.slice t.2.1 (pickL s.me t.1).length t.2.2)), (10, .raw (pV it))]) (fun t => [⟨97, [.res (mapAt (viewsRes p mb nb s) mb es clock (by simp [viewsRes]))], false⟩, ⟨0, [.res (iterRes it mb clock (seenL (t).1) clock)], true⟩, ⟨104, [.res (vRow (t).2.1 (pickL s.me (t).1).length (t).2.2 (vws (pickL s.me (t).1)))], true⟩]) (fun t => t.1.Nodup ∧ ∀ x ∈ t.1, x ∈ es.toList) (fun t => leftN es (seenL t.1)) ([], (none, 0)) mixed ⟨by simp, by simp⟩ (fun _ _ => rfl) rfl (by (repeat (first | exact trivial | refine ⟨⟨rfl, rfl⟩, ?_⟩))) (fun s _ => ⟨by (repeat (first | exact trivial | refine ⟨⟨_, rfl⟩, ?_⟩)), by (repeat (first | exact trivial | refine ⟨⟨_, rfl⟩, ?_⟩))⟩) fun t ht => ?_
  obtain ⟨xs, ⟨o, cap⟩⟩ := t
  obtain ⟨hnd, hsub⟩ := ht
  dsimp only at hnd hsub ⊢
  have hxl : xs.length ≤ s.V.length := by
    rw [← hel]
    exact nodup_le hnd hsub
  have hpl := pick_len s.me xs
  (refine gs ?_)
  refine n_next 0 1 (es := es) (clock := clock) (ρ := viewsRes p mb nb s) rfl rfl hst rfl rfl rfl rfl rfl rfl (fun hall => ?_) (fun x1 hx1 hns => ?_)
  · (refine gs ?_)
    refine gw ?_
    refine n_exit rfl ?_
    (refine gs ?_)
    refine gw ?_
    have hperm : (pickL s.me xs).Perm (mineL s.me s.V) := by rw [← hpk]; exact (seen_perm hst hnd hsub hall).filterMap _
    have hnd' : (pickL s.me xs).Pairwise fun a b => a.nm ≠ b.nm := (hperm.pairwise_iff (fun h => Ne.symm h)).2 hne
    generalize pickL s.me xs = L at hperm hnd' hpl
    by_cases h0 : L.length = 0
    · obtain rfl : L = [] := List.eq_nil_of_length_eq_zero h0
      refine n_sameP (.tup []) rfl rfl rfl (fun ids' w1 hp hI1 => (AnyF.slices_SortFunc_none sortVw o cap _ w1).mono fun e w' ⟨he, hw⟩ => ⟨he, by rw [hw]; exact Frm.refl _ _⟩) ?_
      (refine gs ?_)
      refine gw ?_
      refine n_ret0 rfl rfl fun ids' w' hp hI' => ⟨((o, cap), []), rfl, ⟨hperm, by simp⟩, ?_⟩
      obtain ⟨f1, f2, f3, f4⟩ := post_res (ρ := Res.none) (ρ' := vRow o 0 cap (vws [])) hI' rfl 2 rfl rfl rfl
      exact ⟨f1, f2, fun x hx => (f3 x hx).resolve_left (by simp [Res.none]), f4⟩
    · refine n_callF (P := ∃ g, o = some ⟨g, 0, none⟩) (fun ids' w1 hp hI1 => rowRes_some' (hI1.res 2 rfl rfl) (by omega)) ?_
      rintro ⟨g, rfl⟩
      refine n_callR (Y := List Vw) 2 (fun L' => vRow (some ⟨g, 0, none⟩) L.length cap (vws L')) (fun _ => .tup []) (fun _ => .tuple #[]) (fun L' => L'.Perm L ∧ RisV L') rfl rfl (fun _ => rfl) rfl rfl rfl (fun ids' w1 hp hI1 hR1 => (sortV_ok rfl (by omega) hnd' hR1).mono fun e w' ⟨L', he, hp, hf, hR'⟩ => ⟨L', he, hp, hf, hR', fun x hx => .inl (by simpa [rowRes] using hx), rowRes_lt hR'⟩) ?_
      rintro L' ⟨hp1, hp2⟩
      (refine gs ?_)
      refine gw ?_
      refine n_ret0 rfl rfl fun ids' w' hp hI' => ⟨((some ⟨g, 0, none⟩, cap), L'), by rw [hp1.length_eq], ⟨hp1.trans hperm, hp2⟩, ?_⟩
      dsimp only
      rw [hp1.length_eq]
      obtain ⟨f1, f2, f3, f4⟩ := post_res (ρ := Res.none) (ρ' := vRow (some ⟨g, 0, none⟩) L.length cap (vws L')) hI' rfl 2 rfl rfl rfl
      exact ⟨f1, f2, fun x hx => (f3 x hx).resolve_left (by simp [Res.none]), f4⟩
  · obtain ⟨r, n, v, hk, hv⟩ := hpair x1 hx1
    have hnew := seen_new hns
    have hnd2 : (xs ++ [x1]).Nodup := by
      rw [List.nodup_append]
      exact ⟨hnd, by simp, by intro a ha b hb; simp at hb; subst hb; intro e; subst e; exact hnew ha⟩
    have hsub2 : ∀ x ∈ xs ++ [x1], x ∈ es.toList := by
      intro x hx
      rcases List.mem_append.1 hx with hx | hx
      · exact hsub x hx
      · simp at hx; subst hx; exact hx1
    have hlt := leftN_lt hx1 hns
    rw [seenL_push] at hlt ⊢
    have hpa := pick_add s.me xs x1
    have eK : rOfK x1.key = r := by rw [hk]; rfl
    have eV : vwOfV x1.val = v := by rw [hv]; exact vw_back v
    (refine gs ?_)
    refine gw ?_
    refine n_entry 0 1 (es := es) (ρ := viewsRes p mb nb s) x1 (.tup [.agg [.int .i64 r, .str n], .agg v.sv]) rfl rfl hst hx1 rfl rfl rfl rfl (by rw [← seenL_push]; rfl) (by rw [hk, hv]; rfl) ?_
    (refine gs ?_)
    refine gw ?_
    (refine n_ldA (.int .i64 s.me) rfl (by first | exact trivial | rfl) rfl (fun _ w1 _ hI1 => load_cell aggInt (blk_at (hI1.res 0 rfl rfl).1.1 (j := 0) rfl rfl)) ?_; (refine gs ?_))
    by_cases hme : r = s.me
    · have e1 : pickE s.me x1 = some v := by unfold pickE; rw [eK, if_pos hme, eV]
      rw [e1] at hpa
      have hpl2 : (pickL s.me (xs ++ [x1])).length = (pickL s.me xs).length + 1 := by rw [hpa]; simp
      (repeat ((first | refine n_must rfl ?_ | refine n_chk (drawF_ok (by decide +kernel)) ?_ | refine n_same rfl ?_ | ((first | refine n_must ?_ ?_ | refine n_brT ?_ ?_); (focus (first | (simp [hme]; done) | (simp [hme]; omega) | (simp only [hme]; simp; done)))) | (refine n_brF ?_ ?_; (focus (first | (simp [hme]; done) | (simp [hme]; omega) | (simp only [hme]; simp; done)))) | refine n_must (by (with_reducible refine and_shape ?_) <;> kernel_rfl) ?_); (refine gs ?_)))
      refine n_build1 rfl rfl elemVw rfl rfl rfl rfl rfl rfl rfl rfl rfl ?_
      (refine gs ?_)
      refine gw ?_
      refine n_append (nv := v.l) 2 rfl rfl elemVw hitt hpt.1 hpt.2.1 hpt.2.2 rfl (by omega) rfl rfl rfl rfl rfl rfl (by omega) (by simp [Value.oneCell']) (by omega) (by omega) (show vws (pickL s.me xs) ++ v.l = vws (pickL s.me (xs ++ [x1])) by rw [hpa]; exact vws_add _ _) fun g c => ?_
      (refine gs ?_)
      refine gw ?_
      refine n_again ⟨(xs ++ [x1], (some ⟨g, 0, none⟩, c)), ⟨hnd2, hsub2⟩, hlt, ?_, ?_⟩
      · dsimp only
        rw [hpl2]
        exact (by (repeat (first | exact trivial | refine ⟨⟨rfl, rfl⟩, ?_⟩)))
      · dsimp only
        rw [hpl2]
        exact ⟨_, rfl⟩
    · have e1 : pickE s.me x1 = none := by unfold pickE; rw [eK, if_neg hme]
      rw [e1] at hpa
      have hpa' : pickL s.me (xs ++ [x1]) = pickL s.me xs := by rw [hpa]; simp
      (repeat ((first | refine n_must rfl ?_ | refine n_chk (drawF_ok (by decide +kernel)) ?_ | refine n_same rfl ?_ | ((first | refine n_must ?_ ?_ | refine n_brT ?_ ?_); (focus (first | (simp [hme]; done) | (simp [hme]; omega) | (simp only [hme]; simp; done)))) | (refine n_brF ?_ ?_; (focus (first | (simp [hme]; done) | (simp [hme]; omega) | (simp only [hme]; simp; done)))) | refine n_must (by (with_reducible refine and_shape ?_) <;> kernel_rfl) ?_); (refine gs ?_)))
      refine n_again ⟨(xs ++ [x1], (o, cap)), ⟨hnd2, hsub2⟩, hlt, ?_, ?_⟩
      · dsimp only
        rw [hpa']
        exact (by (repeat (first | exact trivial | refine ⟨⟨rfl, rfl⟩, ?_⟩)))
      · dsimp only
        rw [hpa']
        exact ⟨_, rfl⟩
end Go.Proofs.YtglafgpjgkphkaaGreatDoor
