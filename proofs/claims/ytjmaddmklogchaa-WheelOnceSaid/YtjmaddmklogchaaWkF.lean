/- Package wheel: Tick. -/
import Derived.Test.YtjmaddmklogchaaWkE
set_option maxRecDepth 100000
set_option linter.unusedSimpArgs false
set_option linter.unusedVariables false
set_option maxHeartbeats 8000000
namespace Go.Proofs.Ytjmaddmklogchaa
open Go.RowKit
open Go.Maps (Keyed)

/-! ### Entries that go -/
theorem mdel_nodup {m : List (Int × Int)} {x : Int} (h : (m.map (·.1)).Nodup) : ((mdel m x).map (·.1)).Nodup := by
  by_cases hx : ∀ p ∈ m, p.1 ≠ x
  · rw [(mput_new hx).2.2]; exact h
  · have : ∃ p ∈ m, p.1 = x := by
      simpa using hx
    obtain ⟨p, hp, rfl⟩ := this
    obtain ⟨j, hj⟩ := List.getElem?_of_mem hp
    rw [(mget_at h hj).2.2]
    exact h.sublist ((List.eraseIdx_sublist m j).map _)
theorem mget_del : ∀ {m : List (Int × Int)} {x y : Int}, (m.map (·.1)).Nodup → mget (mdel m x) y = if x = y then none else mget m y
  | [], x, y, _ => by simp [mdel, mget]
  | p :: m, x, y, h => by
    rw [List.map_cons, List.nodup_cons] at h
    have ih := mget_del (x := x) (y := y) h.2
    by_cases e : p.1 = x
    · have hd : mdel (p :: m) x = m := by simp [mdel, e]
      rw [hd]
      by_cases exy : x = y
      · rw [if_pos exy]
        have hn : ∀ z ∈ m, z.1 ≠ y := fun z hz ez => h.1 (List.mem_map.2 ⟨z, hz, by rw [ez, ← exy, e]⟩)
        exact (mput_new hn).1
      · rw [if_neg exy]
        simp [mget, e, exy]
    · have hd : mdel (p :: m) x = p :: mdel m x := by simp [mdel, e]
      rw [hd]
      by_cases epy : p.1 = y
      · rw [if_neg (by rw [← epy]; exact fun h => e h.symm)]
        simp [mget, epy]
      · simp only [mget, epy, if_false]
        simpa [mget, epy] using ih
def delAll (m : List (Int × Int)) (l : List Int) : List (Int × Int) := l.foldl mdel m
theorem delAll_nodup : ∀ {l : List Int} {m : List (Int × Int)}, (m.map (·.1)).Nodup → ((delAll m l).map (·.1)).Nodup
  | [], _, h => h
  | x :: l, m, h => delAll_nodup (l := l) (mdel_nodup h)
theorem delAll_get : ∀ {l : List Int} {m : List (Int × Int)} {y : Int}, (m.map (·.1)).Nodup → mget (delAll m l) y = if y ∈ l then none else mget m y
  | [], m, y, _ => by simp [delAll]
  | x :: l, m, y, h => by
    show mget (delAll (mdel m x) l) y = _
    rw [delAll_get (mdel_nodup h), mget_del h]
    by_cases h1 : y ∈ l
    · simp [h1]
    · by_cases h2 : x = y
      · simp [h2]
      · rw [if_neg h1, if_neg h2, if_neg (by simp [h1]; exact fun h => h2 h.symm)]

/-! ### A tick's round -/
def tD (L : List Tm) (x : Int) (i : Nat) : List Tm := (L.take i).filter fun t => decide (t.due = x)
def tE (L : List Tm) (x : Int) (i : Nat) : List Tm := (L.take i).filter fun t => decide (t.due ≠ x)
def tM (m : List (Int × Int)) (L : List Tm) (x : Int) (i : Nat) : List (Int × Int) := delAll m ((tD L x i).map Tm.num)
section
variable {L : List Tm} {x : Int} {i : Nat} {t : Tm} {m : List (Int × Int)}
theorem t_next (h : L[i]? = some t) : L.take (i + 1) = L.take i ++ [t] := by
  obtain ⟨hi, rfl⟩ := List.getElem?_eq_some_iff.1 h
  rw [List.take_add_one, List.getElem?_eq_getElem hi]; rfl
theorem tD_in (h : L[i]? = some t) (hx : t.due = x) : tD L x (i + 1) = tD L x i ++ [t] := by
  unfold tD; rw [t_next h, List.filter_append]; simp [hx]
theorem tE_in (h : L[i]? = some t) (hx : t.due = x) : tE L x (i + 1) = tE L x i := by
  unfold tE; rw [t_next h, List.filter_append]; simp [hx]
theorem tM_in (h : L[i]? = some t) (hx : t.due = x) : tM m L x (i + 1) = mdel (tM m L x i) t.num := by
  unfold tM; rw [tD_in h hx]; simp [delAll]
theorem tD_out (h : L[i]? = some t) (hx : t.due ≠ x) : tD L x (i + 1) = tD L x i := by
  unfold tD; rw [t_next h, List.filter_append]; simp [hx]
theorem tE_out (h : L[i]? = some t) (hx : t.due ≠ x) : tE L x (i + 1) = tE L x i ++ [t] := by
  unfold tE; rw [t_next h, List.filter_append]; simp [hx]
theorem tM_out (h : L[i]? = some t) (hx : t.due ≠ x) : tM m L x (i + 1) = tM m L x i := by
  unfold tM; rw [tD_out h hx]
theorem tD_le : (tD L x i).length ≤ L.length := Nat.le_trans (List.length_filter_le _ _) (List.length_take_le' _ _)
theorem tE_le : (tE L x i).length ≤ L.length := Nat.le_trans (List.length_filter_le _ _) (List.length_take_le' _ _)
end
def Wh.tick (W : Wh) (q : Nat) (r : Option Addr × Nat) : Wh := ⟨W.n, W.mb, tM W.m (W.L q) (W.s.now + 1) (W.L q).length, fun j => if j = q then r else W.S j, W.s.tick⟩
section
variable {W : Wh} {q : Nat} {r : Option Addr × Nat} {N : Nat}
theorem tick_L (hq : q < W.n) (eq : (W.s.now + 1).tmod (W.n : Int) = (q : Int)) (j : Nat) : (W.tick q r).L j = if j = q then tE (W.L q) (W.s.now + 1) (W.L q).length else W.L j := by
  show slotL W.n (W.s.A.filter _) j = _
  by_cases e : j = q
  · subst e
    rw [if_pos rfl, slot_filter]
    unfold tE
    rw [List.take_length]
  · rw [if_neg e]
    exact slot_tick eq j e
theorem tick_due (hq : q < W.n) (eq : (W.s.now + 1).tmod (W.n : Int) = (q : Int)) : tD (W.L q) (W.s.now + 1) (W.L q).length = W.s.due := by
  unfold tD
  rw [List.take_length]
  exact due_slot eq hq
theorem tick_ok (hW : W.ok N) (hq : q < W.n) (eq : (W.s.now + 1).tmod (W.n : Int) = (q : Int)) : (W.tick q r).ok (N + 1) := by
  refine ⟨hW.n, hW.s.tick, delAll_nodup hW.nd, fun y => ?_⟩
  show mget (delAll W.m ((tD (W.L q) (W.s.now + 1) (W.L q).length).map Tm.num)) y = placeT W.n (W.s.A.filter _) y
  rw [delAll_get hW.nd, tick_due hq eq, hW.pl]
  unfold placeT
  rw [find_filter_none hW.s.up]
  by_cases hm : y ∈ W.s.due.map Tm.num
  · rw [if_pos hm]
    obtain ⟨t, ht, rfl⟩ := List.mem_map.1 hm
    obtain ⟨h1, h2⟩ := List.mem_filter.1 ht
    rw [find_unique hW.s.up h1 rfl]
    have h2 : t.due = W.s.now + 1 := by simpa using h2
    simp [h2]
  · rw [if_neg hm]
    cases hf : W.s.A.find? fun a => decide (a.num = y) with
    | none => rfl
    | some t =>
      have h1 := List.mem_of_find?_eq_some hf
      have h2 : t.num = y := by simpa using List.find?_some hf
      have : t.due ≠ W.s.now + 1 := fun h => hm (List.mem_map.2 ⟨t, List.mem_filter.2 ⟨h1, by simpa using h⟩, h2⟩)
      simp [this]
end
theorem L_le {W : Wh} {N : Nat} (hW : W.ok N) (q : Nat) : (W.L q).length ≤ N := by
  refine Nat.le_trans ?_ hW.s.len
  show (slotL W.n W.s.A q).length ≤ _
  unfold slotL
  split
  · exact List.length_filter_le _ _
  · simp
theorem L_num {W : Wh} {N : Nat} (hW : W.ok N) {q : Nat} {t : Tm} (h : t ∈ W.L q) : 1 ≤ t.num ∧ t.num ≤ W.s.last ∧ W.s.now < t.due ∧ t.due ≤ W.s.now + 1099511627776 :=
  have h1 := (mem_slot h).1
  ⟨(hW.s.num t h1).1, (hW.s.num t h1).2, hW.s.due t h1⟩
theorem memRes_row {p : Nat} {W : Wh} {w : World} (hR : (whRes p W).R w) {q : Nat} (hq : W.rows[q]? = some (W.row q)) : (W.row q).R w := all_at (memRes_res hR 1 rfl rfl) hq
theorem wTick_ok {p : Nat} {W : Wh} {N : Nat} {w : World} (hW : W.ok N) (hN : N ≤ 1000000) (hR : (whRes p W).R w) :
    Calls Try.prog 24 #[pV p] w fun e w' => ∃ y : Wh × Option Addr × Nat, e = .returned (.slice y.2.1 W.s.due.length y.2.2) ∧ (y.1.ok (N + 1) ∧ y.1.s = W.s.tick ∧ y.1.n = W.n) ∧ Post (whRes p W) ((whRes p y.1).both (tRow y.2.1 W.s.due.length y.2.2 (tms W.s.due))) w w' := by
  obtain ⟨hn1, hn2⟩ := hW.n
  have hnow := hW.s.now
  have hlast := hW.s.last
  obtain ⟨q, hq, eq⟩ := tmod_in (x := W.s.now + 1) (n := W.n) (by omega) (by omega)
  have hll := L_le hW q
  have hnum : ∀ t ∈ W.L q, _ := fun t h => L_num hW (q := q) h
  have hI0 : Inv (cx 64 [] (whRes p W).fp w) w [0, 0, 0] (whMem p W) := memRes_open hR fun x hx => hx
  have hAq : W.rows[q]? = some (W.row q) := by rw [List.getElem?_map, List.getElem?_range (by omega)]; rfl
  have hI := (hI0.lessR 1 rfl rfl rfl (fun h => all_out h hAq)).part2 1 rfl rfl 54
  have en : IntKind.i64.wrap (W.s.now + 1) = W.s.now + 1 := w64 (by omega) (by omega)
  obtain ⟨itt, hitt, hpt⟩ := Option.map_eq_some_iff.1 infoTm
  simp only [Prod.mk.injEq] at hpt
  refine calls_sm (cx 64 [] (whRes p W).fp w) (vals := [.raw (pV p)]) mixed Try.func24 rfl rfl rfl hI rfl (st rfl ?_); conv => arg 3; whnf
  refine gw ?_
  (refine n_ldA (.int .i64 W.s.now) rfl (by first | exact trivial | rfl) rfl (fun _ w1 _ hI1 => load_cell aggInt (wb_now (hI1.res 0 rfl rfl) rfl)) ?_; (refine gs ?_))
  (repeat ((first | refine n_must rfl ?_ | refine n_chk (drawF_ok (by decide +kernel)) ?_ | refine n_same rfl ?_ | ((first | refine n_must ?_ ?_ | refine n_brT ?_ ?_); (focus (first | (simp [en]; done) | (simp [en]; omega) | (simp only [en]; simp; done)))) | (refine n_brF ?_ ?_; (focus (first | (simp [en]; done) | (simp [en]; omega) | (simp only [en]; simp; done)))) | refine n_must (by (with_reducible refine and_shape ?_) <;> kernel_rfl) ?_); (refine gs ?_)))
  refine n_storeA (n := p) (off := 66) (k := 1) (ty := 58) (l := W.cells) (rv := .int .i64 (IntKind.i64.wrap (W.s.now + 1))) (v := .int .i64 (IntKind.i64.wrap (W.s.now + 1))) 0 (wbRes p (wcl W.sl W.n W.mb (W.s.now + 1) W.s.last)) (wcl W.sl W.n W.mb (W.s.now + 1) W.s.last) rfl rfl rfl rfl rfl rfl sizeInt rfl rfl rfl rfl rfl (by simp [cellsRes]) (fun w h => h) (by rw [wcl_len]; omega) (by rw [en]; exact wcl_set_now) (fun w w' _ _ h => h) (by simp [cellsRes]) ?_
  (refine gs ?_)
  refine gw ?_
  have hn0 : ¬ (W.n : Int) = 0 := by omega
  (refine n_ldA (.int .i64 (W.s.now + 1)) rfl (by first | exact trivial | rfl) rfl (fun _ w1 _ hI1 => load_cell aggInt (wb_now (hI1.res 0 rfl rfl) rfl)) ?_; (refine gs ?_))
  refine gw ?_
  (refine n_ldA (.int .i64 W.n) rfl (by first | exact trivial | rfl) rfl (fun _ w1 _ hI1 => load_cell aggInt (wb_n (hI1.res 0 rfl rfl) rfl)) ?_; (refine gs ?_))
  (repeat ((first | refine n_must rfl ?_ | refine n_chk (drawF_ok (by decide +kernel)) ?_ | refine n_same rfl ?_ | ((first | refine n_must ?_ ?_ | refine n_brT ?_ ?_); (focus (first | (simp [hn0, eq]; done) | (simp [hn0, eq]; omega) | (simp only [hn0, eq]; simp; done)))) | (refine n_brF ?_ ?_; (focus (first | (simp [hn0, eq]; done) | (simp [hn0, eq]; omega) | (simp only [hn0, eq]; simp; done)))) | refine n_must (by (with_reducible refine and_shape ?_) <;> kernel_rfl) ?_); (refine gs ?_)))
  have ea : ((⟨p, 0, none⟩ : Addr).add 0).add (((W.s.now + 1).tmod (W.n : Int)).toNat * 1) = ⟨p, q, none⟩ := by rw [eq, add_mk, add_mk]; simp
  (refine n_ldA (.raw (.slice (W.S q).1 (W.L q).length (W.S q).2)) rfl (by first | exact trivial | rfl) rfl (fun _ w1 _ hI1 => load_cell aggTms (wb_slot (hI1.res 0 rfl rfl) (by omega) ea)) ?_; (refine gs ?_))
  refine gw ?_
  refine n_loopX [0, 0] ([⟨58, [.res (wbRes p (wcl W.sl W.n W.mb (W.s.now + 1) W.s.last))], true⟩, ⟨54, [.res (allRes (W.rows.set q Res.none))], true⟩, ⟨55, [.res (plRes W.mb (tM W.m (W.L q) (W.s.now + 1) (((0, (none, 0), (none, 0)) : Nat × (Option Addr × Nat) × (Option Addr × Nat))).1))], true⟩, ⟨54, [.res (W.row q)], true⟩, ⟨54, [.res (tRow (((0, (none, 0), (none, 0)) : Nat × (Option Addr × Nat) × (Option Addr × Nat))).2.1.1 (tD (W.L q) (W.s.now + 1) (((0, (none, 0), (none, 0)) : Nat × (Option Addr × Nat) × (Option Addr × Nat))).1).length (((0, (none, 0), (none, 0)) : Nat × (Option Addr × Nat) × (Option Addr × Nat))).2.1.2 (tms (tD (W.L q) (W.s.now + 1) (((0, (none, 0), (none, 0)) : Nat × (Option Addr × Nat) × (Option Addr × Nat))).1)))], true⟩, ⟨54, [.res (tRow (((0, (none, 0), (none, 0)) : Nat × (Option Addr × Nat) × (Option Addr × Nat))).2.2.1 (tE (W.L q) (W.s.now + 1) (((0, (none, 0), (none, 0)) : Nat × (Option Addr × Nat) × (Option Addr × Nat))).1).length (((0, (none, 0), (none, 0)) : Nat × (Option Addr × Nat) × (Option Addr × Nat))).2.2.2 (tms (tE (W.L q) (W.s.now + 1) (((0, (none, 0), (none, 0)) : Nat × (Option Addr × Nat) × (Option Addr × Nat))).1)))], true⟩]) rfl (fun w1 hI1 => ?_) ?_
  · have h1 := hI1.addR (Frm.refl [] w1) (tRow none 0 0 []) 54 true (rowRes_nil _ _ _) (by simp [rowRes]) (by simp [rowRes])
    exact h1.addR (Frm.refl [] w1) (tRow none 0 0 []) 54 true (rowRes_nil _ _ _) (by simp [rowRes]) (by simp [rowRes])
  refine n_loop (σ := Nat × (Option Addr × Nat) × (Option Addr × Nat)) (fun t => [(0, .raw (pV p)), (3, .raw (.slice t.2.1.1 (tD (W.L q) (W.s.now + 1) t.1).length t.2.1.2)), (4, .raw (.slice t.2.2.1 (tE (W.L q) (W.s.now + 1) t.1).length t.2.2.2)), (5, .int .i64 (q : Int)), (29, .raw (.slice (W.S q).1 (W.L q).length (W.S q).2)), (30, .int .i64 ((W.L q).length : Nat)), (31, .int .i64 (t.1 : Nat))]) (fun t => [⟨58, [.res (wbRes p (wcl W.sl W.n W.mb (W.s.now + 1) W.s.last))], true⟩, ⟨54, [.res (allRes (W.rows.set q Res.none))], true⟩, ⟨55, [.res (plRes W.mb (tM W.m (W.L q) (W.s.now + 1) (t).1))], true⟩, ⟨54, [.res (W.row q)], true⟩, ⟨54, [.res (tRow (t).2.1.1 (tD (W.L q) (W.s.now + 1) (t).1).length (t).2.1.2 (tms (tD (W.L q) (W.s.now + 1) (t).1)))], true⟩, ⟨54, [.res (tRow (t).2.2.1 (tE (W.L q) (W.s.now + 1) (t).1).length (t).2.2.2 (tms (tE (W.L q) (W.s.now + 1) (t).1)))], true⟩]) (fun t => t.1 ≤ (W.L q).length) (fun t => (W.L q).length - t.1) (0, (none, 0), (none, 0)) mixed (by dsimp only; omega) (fun _ _ => rfl) rfl (by (repeat (first | exact trivial | refine ⟨⟨rfl, rfl⟩, ?_⟩ | refine ⟨⟨rfl, congrArg (SV.int .i64) eq⟩, ?_⟩))) (fun s _ => ⟨by (repeat (first | exact trivial | refine ⟨⟨_, rfl⟩, ?_⟩)), by (repeat (first | exact trivial | refine ⟨⟨_, rfl⟩, ?_⟩))⟩) fun t ht => ?_
  obtain ⟨i, ⟨do_, dc⟩, ⟨lo, lc⟩⟩ := t
  dsimp only at ht ⊢
  (refine gs ?_)
  by_cases hil : i < (W.L q).length
  · have ei : IntKind.i64.wrap ((i : Int) + 1) = ((i + 1 : Nat) : Int) := by rw [w64 (by omega) (by omega)]; simp
    have hx : (W.L q)[i]? = some (W.L q)[i] := List.getElem?_eq_getElem _
    have hxn := hnum _ (List.getElem_mem hil)
    obtain ⟨g, hg⟩ : ∃ g, (W.S q).1 = some ⟨g, 0, none⟩ := rowRes_some' (memRes_row hR hAq) (by omega)
    generalize (W.L q)[i] = x at hx hxn
    have hdl : (tD (W.L q) (W.s.now + 1) i).length ≤ (W.L q).length := tD_le
    have hel : (tE (W.L q) (W.s.now + 1) i).length ≤ (W.L q).length := tE_le
    rw [hg]
    (repeat ((first | refine n_must rfl ?_ | refine n_chk (drawF_ok (by decide +kernel)) ?_ | refine n_same rfl ?_ | ((first | refine n_must ?_ ?_ | refine n_brT ?_ ?_); (focus (first | (simp [hil]; done) | (simp [hil]; omega) | (simp only [hil]; simp; done)))) | (refine n_brF ?_ ?_; (focus (first | (simp [hil]; done) | (simp [hil]; omega) | (simp only [hil]; simp; done)))) | refine n_must (by (with_reducible refine and_shape ?_) <;> kernel_rfl) ?_); (refine gs ?_)))
    (refine n_ldA (.agg x.sv) rfl (by first | exact trivial | rfl) rfl (fun _ w1 _ hI1 => tm_load (a := ⟨g, 0, none⟩) (by rw [← hg]; exact rd_of_row (hI1.res 3 rfl rfl)) hx rfl) ?_; (refine gs ?_))
    refine gw ?_
    (refine n_ldA (.int .i64 (W.s.now + 1)) rfl (by first | exact trivial | rfl) rfl (fun _ w1 _ hI1 => load_cell aggInt (wb_now (hI1.res 0 rfl rfl) rfl)) ?_; (refine gs ?_))
    by_cases hxd : x.due = W.s.now + 1
    · have hD := tD_in hx hxd
      have hE := tE_in hx hxd
      have hM := tM_in (m := W.m) hx hxd
      have hDl : (tD (W.L q) (W.s.now + 1) (i + 1)).length = (tD (W.L q) (W.s.now + 1) i).length + 1 := by rw [hD]; simp
      (repeat ((first | refine n_must rfl ?_ | refine n_chk (drawF_ok (by decide +kernel)) ?_ | refine n_same rfl ?_ | ((first | refine n_must ?_ ?_ | refine n_brT ?_ ?_); (focus (first | (simp [hxd]; done) | (simp [hxd]; omega) | (simp only [hxd]; simp; done)))) | (refine n_brF ?_ ?_; (focus (first | (simp [hxd]; done) | (simp [hxd]; omega) | (simp only [hxd]; simp; done)))) | refine n_must (by (with_reducible refine and_shape ?_) <;> kernel_rfl) ?_); (refine gs ?_)))
      refine n_build1 rfl rfl elemTm rfl rfl rfl rfl rfl rfl rfl rfl rfl ?_
      (refine gs ?_)
      refine gw ?_
      refine n_append (nv := x.l) 4 rfl rfl elemTm hitt hpt.1 hpt.2.1 hpt.2.2 rfl (by omega) rfl rfl rfl rfl rfl rfl (by omega) (by simp [Value.oneCell']) (by omega) (by omega) (show tms _ ++ x.l = tms (tD (W.L q) (W.s.now + 1) (i + 1)) by rw [hD]; exact tms_add _ _) fun g2 c2 => ?_
      (refine gs ?_)
      refine gw ?_
      (refine n_ldA (.raw (.map (some W.mb))) rfl (by first | exact trivial | rfl) rfl (fun _ w1 _ hI1 => load_cell aggMapI (wb_mb (hI1.res 0 rfl rfl) rfl)) ?_; (refine gs ?_))
      refine gw ?_
      refine n_delete (E := intE) (ev' := intV) (i := 2) (b := W.mb) (kr := .int .i64 x.num) (ρ := plRes W.mb (tM W.m (W.L q) (W.s.now + 1) i)) (plRes W.mb (tM W.m (W.L q) (W.s.now + 1) (i + 1))) (tM W.m (W.L q) (W.s.now + 1) i) x.num intK rfl rfl rfl rfl rfl rfl (wf_of_i64 (by constructor <;> omega)) rfl rfl rfl (by simp [plRes]) (by simp [plRes]) (fun _ _ _ _ h => by exact h) (fun _ _ _ _ _ _ _ h => by rw [hM]; exact h) ?_
      (refine gs ?_)
      refine gw ?_
      refine n_again ⟨(i + 1, (some ⟨g2, 0, none⟩, c2), (lo, lc)), by dsimp only; omega, by dsimp only; omega, ?_, ?_⟩
      · dsimp only
        rw [hDl, hE]
        exact (by (repeat (first | exact trivial | refine ⟨⟨rfl, rfl⟩, ?_⟩ | refine ⟨⟨rfl, congrArg (SV.int .i64) ei⟩, ?_⟩)))
      · dsimp only
        rw [hDl, hE]
        exact ⟨_, rfl⟩
    · have hD := tD_out hx hxd
      have hE := tE_out hx hxd
      have hM := tM_out (m := W.m) hx hxd
      have hEl : (tE (W.L q) (W.s.now + 1) (i + 1)).length = (tE (W.L q) (W.s.now + 1) i).length + 1 := by rw [hE]; simp
      (repeat ((first | refine n_must rfl ?_ | refine n_chk (drawF_ok (by decide +kernel)) ?_ | refine n_same rfl ?_ | ((first | refine n_must ?_ ?_ | refine n_brT ?_ ?_); (focus (first | (simp [hxd]; done) | (simp [hxd]; omega) | (simp only [hxd]; simp; done)))) | (refine n_brF ?_ ?_; (focus (first | (simp [hxd]; done) | (simp [hxd]; omega) | (simp only [hxd]; simp; done)))) | refine n_must (by (with_reducible refine and_shape ?_) <;> kernel_rfl) ?_); (refine gs ?_)))
      refine n_build1 rfl rfl elemTm rfl rfl rfl rfl rfl rfl rfl rfl rfl ?_
      (refine gs ?_)
      refine gw ?_
      refine n_append (nv := x.l) 5 rfl rfl elemTm hitt hpt.1 hpt.2.1 hpt.2.2 rfl (by omega) rfl rfl rfl rfl rfl rfl (by omega) (by simp [Value.oneCell']) (by omega) (by omega) (show tms _ ++ x.l = tms (tE (W.L q) (W.s.now + 1) (i + 1)) by rw [hE]; exact tms_add _ _) fun g2 c2 => ?_
      (refine gs ?_)
      refine gw ?_
      refine n_again ⟨(i + 1, (do_, dc), (some ⟨g2, 0, none⟩, c2)), by dsimp only; omega, by dsimp only; omega, ?_, ?_⟩
      · dsimp only
        rw [hEl, hD]
        exact (by (repeat (first | exact trivial | refine ⟨⟨rfl, rfl⟩, ?_⟩ | refine ⟨⟨rfl, congrArg (SV.int .i64) ei⟩, ?_⟩)))
      · dsimp only
        rw [hEl, hD, hM]
        exact ⟨_, rfl⟩
  · obtain rfl : i = (W.L q).length := by omega
    refine gw ?_
    refine n_exit rfl ?_
    (refine gs ?_)
    refine gw ?_
    refine n_storeA (n := p) (off := q) (k := 1) (ty := 58) (l := wcl W.sl W.n W.mb (W.s.now + 1) W.s.last) (rv := .raw (.slice lo (tE (W.L q) (W.s.now + 1) (W.L q).length).length lc)) (v := .slice lo (tE (W.L q) (W.s.now + 1) (W.L q).length).length lc) 0 (wbRes p (wcl (fun j => if j = q then .slice lo (tE (W.L q) (W.s.now + 1) (W.L q).length).length lc else W.sl j) W.n W.mb (W.s.now + 1) W.s.last)) _ rfl rfl rfl (show ((⟨p, 0, none⟩ : Addr).add 0).add ((q : Int).toNat * 1) = _ by rw [add_mk, add_mk]; simp) rfl rfl sizeTms rfl rfl rfl rfl rfl (by simp [cellsRes]) (fun w h => h) (by rw [wcl_len]; omega) (wcl_set_slot (by omega)) (fun w w' _ _ h => h) (by simp [cellsRes]) ?_
    (refine gs ?_)
    refine gw ?_
    have eD := tick_due hq eq
    refine n_ret0 rfl rfl fun ids' w' hp hI' => ⟨(W.tick q (lo, lc), do_, dc), by rw [eD], ⟨tick_ok hW hq eq, rfl, rfl⟩, ?_⟩
    have hrl : (W.rows.set q Res.none)[q]? = some Res.none := by rw [List.getElem?_set_self (by simp; omega)]
    have hI2 := hI'.join 1 5 (by decide) rfl rfl rfl rfl rfl rfl (fun h => all_in h hrl)
    have e1 : (W.tick q (lo, lc)).cells = wcl (fun j => if j = q then .slice lo (tE (W.L q) (W.s.now + 1) (W.L q).length).length lc else W.sl j) W.n W.mb (W.s.now + 1) W.s.last := by
      refine wcl_congr fun j _ => ?_
      by_cases e : j = q
      · subst e
        simp only [Wh.sl, tick_L hq eq, if_pos]
        simp [Wh.tick]
      · simp only [Wh.sl, tick_L hq eq, if_neg e]
        simp [Wh.tick, e]
    have e2 : (W.rows.set q Res.none).set q (tRow lo (tE (W.L q) (W.s.now + 1) (W.L q).length).length lc (tms (tE (W.L q) (W.s.now + 1) (W.L q).length))) = (W.tick q (lo, lc)).rows := by
      refine map_upd ?_ fun j _ e => ?_
      · simp only [Wh.row, tick_L hq eq, if_pos]
        simp [Wh.tick]
      · simp only [Wh.row, tick_L hq eq, if_neg e]
        simp [Wh.tick, e]
    rw [← e1, e2, eD] at hI2
    have hI3 := (hI2.gather (ids0 := [0, 0, 0]) (mem0 := whMem p (W.tick q (lo, lc))) [0, 1, 2] (.res rfl (.res rfl (.res rfl .nil))) (by decide) 58).absorb 6 4 (by decide) rfl rfl rfl rfl rfl rfl
    exact post_res (ρ := whRes p W) (ρ' := (whRes p (W.tick q (lo, lc))).both (tRow do_ W.s.due.length dc (tms W.s.due))) hI3 rfl 6 rfl rfl rfl
end Go.Proofs.Ytjmaddmklogchaa
