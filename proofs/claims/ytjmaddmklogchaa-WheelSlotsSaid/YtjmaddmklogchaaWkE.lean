/- Package wheel: the wheel as parts of memory; New, Now, Arm. -/
import Derived.Test.YtjmaddmklogchaaWkA
import Derived.Test.YtjmaddmklogchaaWkG
set_option maxRecDepth 100000
set_option linter.unusedSimpArgs false
set_option linter.unusedVariables false
set_option maxHeartbeats 8000000
namespace Go.Proofs.Ytjmaddmklogchaa
open Go.RowKit
open Go.Maps (Keyed)

abbrev FreshR (w w' : World) (ρ : Res) : Prop := Frm [] w w' ∧ ρ.R w' ∧ (∀ x ∈ ρ.fp, w.heap.size ≤ x) ∧ ∀ x ∈ ρ.fp, x < w'.heap.size
abbrev i64 (x : Int) : Prop := -9223372036854775808 ≤ x ∧ x ≤ 9223372036854775807
theorem wf_of_i64 {x : Int} (h : i64 x) : (Lit.int .i64 x).wf = true := by
  simp [Lit.wf]
  have e1 : IntKind.i64.min = -9223372036854775808 := by decide
  have e2 : IntKind.i64.max = 9223372036854775807 := by decide
  omega
theorem aggMapI : aggB Try.prog 55 = some false := by kernel_rfl
theorem sizeInt : sizeB Try.prog 3 = some 1 := by kernel_rfl
theorem sizeTms : sizeB Try.prog 31 = some 1 := by kernel_rfl

/-! ### The block -/
def wcl (f : Nat → Value) (n : Int) (mb : Nat) (now last : Int) : List Value := (List.range 64).map f ++ [.int .i64 n, .map (some mb), .int .i64 now, .int .i64 last]
section
variable {f : Nat → Value} {n : Int} {mb : Nat} {now last : Int}
theorem wcl_len : (wcl f n mb now last).length = 68 := by simp [wcl]
theorem wcl_slot {k : Nat} (hk : k < 64) : (wcl f n mb now last)[k]? = some (f k) := by
  rw [wcl, List.getElem?_append_left (by simpa using hk)]; simp [hk]
theorem wcl_n : (wcl f n mb now last)[64]? = some (.int .i64 n) := by rw [wcl, List.getElem?_append_right (by simp)]; simp
theorem wcl_mb : (wcl f n mb now last)[65]? = some (.map (some mb)) := by rw [wcl, List.getElem?_append_right (by simp)]; simp
theorem wcl_now : (wcl f n mb now last)[66]? = some (.int .i64 now) := by rw [wcl, List.getElem?_append_right (by simp)]; simp
theorem wcl_last : (wcl f n mb now last)[67]? = some (.int .i64 last) := by rw [wcl, List.getElem?_append_right (by simp)]; simp
theorem wcl_congr {g : Nat → Value} (h : ∀ j, j < 64 → f j = g j) : wcl f n mb now last = wcl g n mb now last := by
  unfold wcl
  rw [List.map_congr_left fun j hj => h j (List.mem_range.1 hj)]
theorem set_one {l : List Value} {k : Nat} {v : Value} (hk : k < l.length) : l.take k ++ [v] ++ l.drop (k + 1) = l.set k v := by
  rw [List.set_eq_take_append_cons_drop, if_pos hk]; simp
theorem wcl_set_now {x : Int} : (wcl f n mb now last).take 66 ++ [.int .i64 x] ++ (wcl f n mb now last).drop (66 + 1) = wcl f n mb x last := by
  rw [set_one (by rw [wcl_len]; omega), wcl, List.set_append_right _ _ (by simp)]; simp [wcl]
theorem wcl_set_last {x : Int} : (wcl f n mb now last).take 67 ++ [.int .i64 x] ++ (wcl f n mb now last).drop (67 + 1) = wcl f n mb now x := by
  rw [set_one (by rw [wcl_len]; omega), wcl, List.set_append_right _ _ (by simp)]; simp [wcl]
theorem wcl_set_slot {k : Nat} (hk : k < 64) {v : Value} : (wcl f n mb now last).take k ++ [v] ++ (wcl f n mb now last).drop (k + 1) = wcl (fun j => if j = k then v else f j) n mb now last := by
  rw [set_one (by rw [wcl_len]; omega), wcl, List.set_append_left _ _ (by simpa using hk), wcl]
  congr 1
  apply List.ext_getElem?
  intro j
  rw [List.getElem?_set]
  by_cases e : k = j
  · subst e
    simp [hk]
  · rw [if_neg e]
    simp only [List.getElem?_map]
    by_cases hj : j < 64
    · rw [List.getElem?_range hj]
      simp only [Option.map_some]
      rw [if_neg fun h => e h.symm]
    · rw [List.getElem?_eq_none (by simp; omega)]; rfl
end
theorem map_upd {α : Type} {F G : Nat → α} {k n : Nat} {x y : α} (hy : y = G k) (h : ∀ j, j < n → j ≠ k → F j = G j) : (((List.range n).map F).set k x).set k y = (List.range n).map G := by
  subst hy
  apply List.ext_getElem?
  intro j
  rw [List.set_set, List.getElem?_set]
  by_cases e : k = j
  · subst e
    by_cases hj : k < n
    · simp [hj]
    · simp [hj]
  · rw [if_neg e]
    simp only [List.getElem?_map]
    by_cases hj : j < n
    · rw [List.getElem?_range hj]
      simp [h j hj fun h => e h.symm]
    · rw [List.getElem?_eq_none (by simp; omega)]; rfl

/-! ### The parts -/
def plRes (mb : Nat) (m : List (Int × Int)) : Res where
  fp := [mb]
  R w := MapOf intE intV w mb m
  stable := fun w w' hk h => h.keep (hk mb (by simp))
structure Wh where
  n : Nat
  mb : Nat
  m : List (Int × Int)
  S : Nat → Option Addr × Nat
  s : Ws
abbrev Wh.L (W : Wh) (k : Nat) : List Tm := slotL W.n W.s.A k
abbrev Wh.sl (W : Wh) (k : Nat) : Value := .slice (W.S k).1 (W.L k).length (W.S k).2
abbrev Wh.row (W : Wh) (k : Nat) : Res := tRow (W.S k).1 (W.L k).length (W.S k).2 (tms (W.L k))
abbrev wbRes (p : Nat) (l : List Value) : Res := cellsRes p l 58
abbrev whM (p : Nat) (l : List Value) (A : List Res) (mb : Nat) (m : List (Int × Int)) : Mem := [⟨58, [.res (wbRes p l)], true⟩, ⟨54, [.res (allRes A)], true⟩, ⟨55, [.res (plRes mb m)], true⟩]
abbrev Wh.cells (W : Wh) : List Value := wcl W.sl W.n W.mb W.s.now W.s.last
abbrev Wh.rows (W : Wh) : List Res := (List.range 64).map W.row
abbrev whMem (p : Nat) (W : Wh) : Mem := whM p W.cells W.rows W.mb W.m
abbrev whRes (p : Nat) (W : Wh) : Res := memRes [0, 0, 0] (whMem p W)
structure Wh.ok (W : Wh) (N : Nat) : Prop where
  n : 1 ≤ W.n ∧ W.n ≤ 64
  s : W.s.ok N
  nd : (W.m.map (·.1)).Nodup
  pl : ∀ x, mget W.m x = placeT W.n W.s.A x
section
variable {p : Nat} {f : Nat → Value} {n : Int} {mb : Nat} {now last : Int} {w : World}
theorem wb_slot (h : (wbRes p (wcl f n mb now last)).R w) {k : Nat} (hk : k < 64) {ad : Addr} (ha : ad = ⟨p, k, none⟩) : w.cell? ad = some (f k) := cellsRes_at h (wcl_slot hk) (ha.trans (add_mk p k).symm)
theorem wb_n (h : (wbRes p (wcl f n mb now last)).R w) {ad : Addr} (ha : ad = ⟨p, 64, none⟩) : w.cell? ad = some (.int .i64 n) := cellsRes_at h wcl_n (ha.trans (add_mk p 64).symm)
theorem wb_mb (h : (wbRes p (wcl f n mb now last)).R w) {ad : Addr} (ha : ad = ⟨p, 65, none⟩) : w.cell? ad = some (.map (some mb)) := cellsRes_at h wcl_mb (ha.trans (add_mk p 65).symm)
theorem wb_now (h : (wbRes p (wcl f n mb now last)).R w) {ad : Addr} (ha : ad = ⟨p, 66, none⟩) : w.cell? ad = some (.int .i64 now) := cellsRes_at h wcl_now (ha.trans (add_mk p 66).symm)
theorem wb_last (h : (wbRes p (wcl f n mb now last)).R w) {ad : Addr} (ha : ad = ⟨p, 67, none⟩) : w.cell? ad = some (.int .i64 last) := cellsRes_at h wcl_last (ha.trans (add_mk p 67).symm)
end

/-! ### New, Now -/
theorem range64 : (List.range 64).map (fun _ => Value.slice none 0 0) = List.replicate 64 (.slice none 0 0) := by rw [List.map_const', List.length_range]
abbrev Wh.new (n mb : Nat) : Wh := ⟨n, mb, [], fun _ => (none, 0), ⟨[], 0, 0⟩⟩
theorem slot_nil (n k : Nat) : slotL n [] k = [] := by unfold slotL; split <;> rfl
theorem new_ok {n mb : Nat} (h : 1 ≤ n ∧ n ≤ 64) : (Wh.new n mb).ok 0 :=
  ⟨h, ⟨by simp, by simp, by simp, by simp, by simp, by simp⟩, by simp, fun x => rfl⟩
theorem rows_new (n mb : Nat) (w : World) : (allRes (Wh.new n mb).rows).R w ∧ (allRes (Wh.new n mb).rows).fp = [] := by
  have h : ∀ r ∈ (Wh.new n mb).rows, r.R w ∧ r.fp = [] := by
    intro r hr
    obtain ⟨k, _, rfl⟩ := List.mem_map.1 hr
    simp only [Wh.row, Wh.L, slot_nil]
    exact ⟨rowRes_nil _ _ _, rfl⟩
  have hfp : ∀ r ∈ (Wh.new n mb).rows, r.fp = [] := fun r hr => (h r hr).2
  refine ⟨⟨fun r hr => (h r hr).1, fun i j r s hr hs _ x hx => ?_⟩, ?_⟩
  · rw [hfp r (List.mem_of_getElem? hr)] at hx; cases hx
  · show (Wh.new n mb).rows.flatMap Res.fp = []
    rw [List.flatMap_eq_nil_iff]
    exact hfp
theorem wNew_ok (n : Int) (w : World) (hn : 1 ≤ n ∧ n ≤ 64) : Calls Try.prog 11 #[.int .i64 n] w fun e w' => ∃ y : Nat × Nat, e = .returned (.tuple #[pV y.1, .int .i64 0]) ∧ True ∧ FreshR w w' (whRes y.1 (Wh.new n.toNat y.2)) := by
  have hI := Inv.nil (P := Try.prog) (N := 14) (S := []) (os := []) w
  refine calls_sm (cx 14 [] [] w) (vals := [.int .i64 n]) mixed Try.func11 rfl rfl rfl hI rfl (st rfl ?_); conv => arg 3; whnf
  have h1 : ¬ n < 1 := by omega
  have h2 : ¬ 64 < n := by omega
  (repeat ((first | refine n_must rfl ?_ | refine n_chk (drawF_ok (by decide +kernel)) ?_ | refine n_same rfl ?_ | ((first | refine n_must ?_ ?_ | refine n_brT ?_ ?_); (focus (first | (simp [h1, h2]; done) | (simp [h1, h2]; omega) | (simp only [h1, h2]; simp; done)))) | (refine n_brF ?_ ?_; (focus (first | (simp [h1, h2]; done) | (simp [h1, h2]; omega) | (simp only [h1, h2]; simp; done)))) | refine n_must (by (with_reducible refine and_shape ?_) <;> kernel_rfl) ?_); (refine gs ?_)))
  refine n_makeMap (fun b => plRes b []) 55 rfl rfl rfl (fun _ => rfl) (fun w b h => MapOf.empty _ _ h) fun mb hmb => ?_
  (refine gs ?_)
  refine gw ?_
  refine n_ret rfl fun ids' w' hp hI' => ?_
  obtain ⟨p, rfl⟩ := ext1 hp (by rw [hI'.len]; rfl)
  have hB := hI'.at0 1 rfl rfl rfl
  have hR : MapOf intE intV w' mb [] := hI'.res 0 rfl rfl
  have hne : p ≠ mb := by simpa [plRes] using hI'.ne_res 1 0 (by decide) rfl rfl rfl rfl rfl
  have hP := hI'.new_at 1 rfl rfl rfl rfl (by simp)
  have hcl : (Wh.new n.toNat mb).cells = List.replicate 64 (.slice none 0 0) ++ [.int .i64 n, .map (some mb), .int .i64 0, .int .i64 0] := by
    have e : ((n.toNat : Nat) : Int) = n := by omega
    show wcl _ _ _ _ _ = _
    rw [wcl, e]
    congr 1
    rw [← range64]
    apply List.map_congr_left
    intro k _
    simp [Wh.sl, Wh.L, slot_nil]
  obtain ⟨ra, rb⟩ := rows_new n.toNat mb w'
  have hb : (wbRes p (Wh.new n.toNat mb).cells).R w' := by
    rw [hcl]
    exact hB
  have hJ : Inv ({ P := Try.prog, N := 0, os := [], S := [p, mb], w0 := w' } : Ctx) w' [0, 0, 0] (whMem p (Wh.new n.toNat mb)) := by
    have h1 := (Inv.nil (P := Try.prog) (N := 0) (S := [p, mb]) (os := []) w').consR (t := 58) (rw_ := true) (by simp) hb (by intro x hx; simp [cellsRes] at hx; subst hx; exact hB.lt) (by intro _ x hx; simp [cellsRes] at hx; simp [hx])
    have h2 := h1.consR (t := 54) (rw_ := true) (r := allRes (Wh.new n.toNat mb).rows) (by rw [rb]; simp) ra (by rw [rb]; simp) (by rw [rb]; simp)
    exact h2.consR (t := 55) (rw_ := true) (r := plRes mb []) (by
      intro x hx hx'
      simp [plRes] at hx
      subst hx
      have : x ∈ (wbRes p (Wh.new n.toNat x).cells).fp ∨ x ∈ (allRes (Wh.new n.toNat x).rows).fp := by simpa [fpsOf, resOf, fpOf] using hx'
      rw [rb] at this
      simp [cellsRes] at this
      exact hne this.symm) hR (by intro x hx; simp [plRes] at hx; subst hx; exact MapOf.lt hR) (by intro _ x hx; simp [plRes] at hx; simp [hx])
  have hRR := memRes_here hJ [0, 1, 2] (ids := [0, 0, 0]) (mem := whMem p (Wh.new n.toNat mb)) (.res rfl (.res rfl (.res rfl .nil))) (by decide)
  refine ⟨_, rfl, ⟨p, mb⟩, rfl, trivial, hI'.frm, hRR, fun x hx => ?_, memRes_lt hRR⟩
  have : x = p ∨ x = mb := by
    have h : x ∈ (wbRes p (Wh.new n.toNat mb).cells).fp ∨ x ∈ (allRes (Wh.new n.toNat mb).rows).fp ∨ x ∈ (plRes mb []).fp := by simpa [memRes, fpsOf, resOf, fpOf] using hx
    rw [rb] at h
    simpa [cellsRes, plRes] using h
  rcases this with rfl | rfl
  · exact hP
  · exact hmb
theorem wNewBad_ok (n : Int) (w : World) (hn : n < 1 ∨ 64 < n) : Calls Try.prog 11 #[.int .i64 n] w fun e w' => e = .returned (.tuple #[.pointer none, .int .i64 1]) ∧ Frm [] w w' := by
  have hI := Inv.nil (P := Try.prog) (N := 14) (S := []) (os := []) w
  refine calls_sm (cx 14 [] [] w) (vals := [.int .i64 n]) mixed Try.func11 rfl rfl rfl hI rfl (st rfl ?_); conv => arg 3; whnf
  by_cases h1 : n < 1
  · (repeat ((first | refine n_must rfl ?_ | refine n_chk (drawF_ok (by decide +kernel)) ?_ | refine n_same rfl ?_ | ((first | refine n_must ?_ ?_ | refine n_brT ?_ ?_); (focus (first | (simp [h1]; done) | (simp [h1]; omega) | (simp only [h1]; simp; done)))) | (refine n_brF ?_ ?_; (focus (first | (simp [h1]; done) | (simp [h1]; omega) | (simp only [h1]; simp; done)))) | refine n_must (by (with_reducible refine and_shape ?_) <;> kernel_rfl) ?_); (refine gs ?_)))
    exact n_ret0 rfl rfl fun ids' w' hp hI' => ⟨rfl, hI'.frm⟩
  have h2 : 64 < n := by omega
  (repeat ((first | refine n_must rfl ?_ | refine n_chk (drawF_ok (by decide +kernel)) ?_ | refine n_same rfl ?_ | ((first | refine n_must ?_ ?_ | refine n_brT ?_ ?_); (focus (first | (simp [h1, h2]; done) | (simp [h1, h2]; omega) | (simp only [h1, h2]; simp; done)))) | (refine n_brF ?_ ?_; (focus (first | (simp [h1, h2]; done) | (simp [h1, h2]; omega) | (simp only [h1, h2]; simp; done)))) | refine n_must (by (with_reducible refine and_shape ?_) <;> kernel_rfl) ?_); (refine gs ?_)))
  exact n_ret0 rfl rfl fun ids' w' hp hI' => ⟨rfl, hI'.frm⟩
theorem wNow_ok {p : Nat} {W : Wh} {w : World} (hR : (whRes p W).R w) : Calls Try.prog 16 #[pV p] w fun e w' => e = .returned (.int .i64 W.s.now) ∧ Frm [] w w' := by
  have hI : Inv (cx 7 [] [] w) w [0, 0, 0] (ro (whMem p W)) := memRes_read hR
  refine calls_sm (cx 7 [] [] w) (vals := [.raw (pV p)]) mixed Try.func16 rfl rfl rfl hI rfl (st rfl ?_); conv => arg 3; whnf
  refine gw ?_
  (refine n_ldA (.int .i64 W.s.now) rfl (by first | exact trivial | rfl) rfl (fun _ w1 _ hI1 => load_cell aggInt (wb_now (hI1.res 0 rfl rfl) rfl)) ?_; (refine gs ?_))
  refine gw ?_
  exact n_ret0 rfl rfl fun ids' w' hp hI' => ⟨rfl, hI'.frm⟩

/-! ### Arm -/
theorem placeT_arm {n : Nat} {A : List Tm} {t : Tm} {x : Int} (h : ∀ a ∈ A, a.num ≠ t.num) : placeT n (A ++ [t]) x = if t.num = x then some (t.due.tmod (n : Int)) else placeT n A x := by
  unfold placeT
  rw [find_append_last h]
  split <;> rfl
theorem mput_nodup : ∀ {m : List (Int × Int)} {x y : Int}, (m.map (·.1)).Nodup → ((mput m x y).map (·.1)).Nodup
  | [], x, y, _ => by simp [mput]
  | p :: m, x, y, h => by
    rw [List.map_cons, List.nodup_cons] at h
    unfold mput
    split
    · rename_i e
      rw [List.map_cons, List.nodup_cons]
      simpa [e] using h
    · rename_i e
      rw [List.map_cons, List.nodup_cons]
      refine ⟨fun hm => ?_, mput_nodup h.2⟩
      obtain ⟨z, hz, hz1⟩ := List.mem_map.1 hm
      rcases mput_keys m x y z hz with hz | rfl
      · exact h.1 (List.mem_map.2 ⟨z, hz, hz1⟩)
      · exact e hz1.symm
def Wh.arm (W : Wh) (d k i : Int) (q : Nat) (r : Option Addr × Nat) : Wh := ⟨W.n, W.mb, mput W.m (W.s.last + 1) q, fun j => if j = q then r else W.S j, W.s.arm d k i⟩
theorem arm_L {W : Wh} {d k i : Int} {q : Nat} {r : Option Addr × Nat} (hq : q < W.n) (eq : (W.s.now + delayF d).tmod (W.n : Int) = (q : Int)) (j : Nat) : (W.arm d k i q r).L j = if j = q then W.L q ++ [⟨W.s.now + delayF d, W.s.last + 1, k, i⟩] else W.L j := by
  show slotL W.n (W.s.A ++ [_]) j = _
  rw [slot_arm (k := q) j (by exact eq)]
  by_cases e : j = q
  · rw [if_pos ⟨e, hq⟩, if_pos e]
  · rw [if_neg (fun h => e h.1), if_neg e]
theorem arm_ok {W : Wh} {N : Nat} {d k i : Int} {q : Nat} {r : Option Addr × Nat} (hW : W.ok N) (eq : (W.s.now + delayF d).tmod (W.n : Int) = (q : Int)) : (W.arm d k i q r).ok (N + 1) := by
  refine ⟨hW.n, hW.s.arm d k i, mput_nodup hW.nd, fun x => ?_⟩
  show mget (mput W.m (W.s.last + 1) q) x = placeT W.n (W.s.A ++ [_]) x
  rw [mget_put, placeT_arm (fun a ha => by have := (hW.s.num a ha).2; show a.num ≠ W.s.last + 1; omega), hW.pl]
  show _ = if W.s.last + 1 = x then some ((W.s.now + delayF d).tmod (W.n : Int)) else _
  rw [eq]
theorem wArm_ok {p : Nat} {W : Wh} {N : Nat} {d k i : Int} {w : World} (hW : W.ok N) (hN : N ≤ 1000000) (hR : (whRes p W).R w) :
    Calls Try.prog 17 #[pV p, .int .i64 d, .int .i64 k, .int .i64 i] w fun e w' => ∃ W' : Wh, e = .returned (.int .i64 (W.s.last + 1)) ∧ (W'.ok (N + 1) ∧ W'.s = W.s.arm d k i ∧ W'.n = W.n) ∧ Post (whRes p W) (whRes p W') w w' := by
  obtain ⟨hn1, hn2⟩ := hW.n
  have hnow := hW.s.now
  have hlast := hW.s.last
  have hlen := hW.s.len
  have hd := delayF_in d
  obtain ⟨q, hq, eq⟩ := tmod_in (x := W.s.now + delayF d) (n := W.n) (by omega) (by omega)
  have hI0 : Inv (cx 63 [(2, .of [(0, []), (1, []), (2, []), (3, []), (4, []), (5, []), (6, []), (7, []), (8, []), (9, []), (10, []), (11, []), (12, []), (13, []), (14, []), (15, [11, 3]), (16, [])]), (4, .of [(0, []), (1, []), (2, []), (3, []), (4, []), (5, []), (6, []), (7, []), (8, []), (11, []), (12, []), (9, [7]), (10, []), (13, []), (14, [])])] (whRes p W).fp w) w [0, 0, 0] (whMem p W) := memRes_open hR fun x hx => hx
  have hAq : W.rows[q]? = some (W.row q) := by rw [List.getElem?_map, List.getElem?_range (by omega)]; rfl
  have hI := (hI0.lessR 1 rfl rfl rfl (fun h => all_out h hAq)).part2 1 rfl rfl 54
  have el : IntKind.i64.wrap (W.s.last + 1) = W.s.last + 1 := w64 (by omega) (by omega)
  have ed : IntKind.i64.wrap (W.s.now + min (max d 1) 1099511627776) = W.s.now + delayF d := by rw [w64 (by omega) (by omega)]; rfl
  obtain ⟨itt, hitt, hpt⟩ := Option.map_eq_some_iff.1 infoTm
  simp only [Prod.mk.injEq] at hpt
  refine calls_sm (cx 63 [(2, .of [(0, []), (1, []), (2, []), (3, []), (4, []), (5, []), (6, []), (7, []), (8, []), (9, []), (10, []), (11, []), (12, []), (13, []), (14, []), (15, [11, 3]), (16, [])]), (4, .of [(0, []), (1, []), (2, []), (3, []), (4, []), (5, []), (6, []), (7, []), (8, []), (11, []), (12, []), (9, [7]), (10, []), (13, []), (14, [])])] (whRes p W).fp w) (vals := [.raw (pV p), .int .i64 d, .int .i64 k, .int .i64 i]) mixed Try.func17 rfl rfl rfl hI rfl (st rfl ?_); conv => arg 3; whnf
  refine gw ?_
  (refine n_ldA (.int .i64 W.s.last) rfl (by first | exact trivial | rfl) rfl (fun _ w1 _ hI1 => load_cell aggInt (wb_last (hI1.res 0 rfl rfl) rfl)) ?_; (refine gs ?_))
  (repeat ((first | refine n_must rfl ?_ | refine n_chk (drawF_ok (by decide +kernel)) ?_ | refine n_same rfl ?_ | ((first | refine n_must ?_ ?_ | refine n_brT ?_ ?_); (focus (first | (simp [el]; done) | (simp [el]; omega) | (simp only [el]; simp; done)))) | (refine n_brF ?_ ?_; (focus (first | (simp [el]; done) | (simp [el]; omega) | (simp only [el]; simp; done)))) | refine n_must (by (with_reducible refine and_shape ?_) <;> kernel_rfl) ?_); (refine gs ?_)))
  refine n_storeA (n := p) (off := 67) (k := 1) (ty := 58) (l := W.cells) (rv := .int .i64 (IntKind.i64.wrap (W.s.last + 1))) (v := .int .i64 (IntKind.i64.wrap (W.s.last + 1))) 0 (wbRes p (wcl W.sl W.n W.mb W.s.now (W.s.last + 1))) (wcl W.sl W.n W.mb W.s.now (W.s.last + 1)) rfl rfl rfl rfl rfl rfl sizeInt rfl rfl rfl rfl rfl (by simp [cellsRes]) (fun w h => h) (by rw [wcl_len]; omega) (by rw [el]; exact wcl_set_last) (fun w w' _ _ h => h) (by simp [cellsRes]) ?_
  (refine gs ?_)
  refine gw ?_
  (refine n_ldA (.int .i64 W.s.now) rfl (by first | exact trivial | rfl) rfl (fun _ w1 _ hI1 => load_cell aggInt (wb_now (hI1.res 0 rfl rfl) rfl)) ?_; (refine gs ?_))
  refine gw ?_
  (refine n_ldA (.int .i64 (W.s.last + 1)) rfl (by first | exact trivial | rfl) rfl (fun _ w1 _ hI1 => load_cell aggInt (wb_last (hI1.res 0 rfl rfl) rfl)) ?_; (refine gs ?_))
  refine gw ?_
  (refine n_ldA (.int .i64 (W.s.last + 1)) rfl (by first | exact trivial | rfl) rfl (fun _ w1 _ hI1 => load_cell aggInt (wb_last (hI1.res 0 rfl rfl) rfl)) ?_; (refine gs ?_))
  refine gw ?_
  (refine n_ldA (.int .i64 W.s.now) rfl (by first | exact trivial | rfl) rfl (fun _ w1 _ hI1 => load_cell aggInt (wb_now (hI1.res 0 rfl rfl) rfl)) ?_; (refine gs ?_))
  refine gw ?_
  (refine n_ldA (.int .i64 W.n) rfl (by first | exact trivial | rfl) rfl (fun _ w1 _ hI1 => load_cell aggInt (wb_n (hI1.res 0 rfl rfl) rfl)) ?_; (refine gs ?_))
  have hn0 : ¬ (W.n : Int) = 0 := by omega
  (repeat ((first | refine n_must rfl ?_ | refine n_chk (drawF_ok (by decide +kernel)) ?_ | refine n_same rfl ?_ | ((first | refine n_must ?_ ?_ | refine n_brT ?_ ?_); (focus (first | (simp [hn0, ed, eq]; done) | (simp [hn0, ed, eq]; omega) | (simp only [hn0, ed, eq]; simp; done)))) | (refine n_brF ?_ ?_; (focus (first | (simp [hn0, ed, eq]; done) | (simp [hn0, ed, eq]; omega) | (simp only [hn0, ed, eq]; simp; done)))) | refine n_must (by (with_reducible refine and_shape ?_) <;> kernel_rfl) ?_); (refine gs ?_)))
  have ea : ((⟨p, 0, none⟩ : Addr).add 0).add (((IntKind.i64.wrap (W.s.now + min (max d 1) 1099511627776)).tmod (W.n : Int)).toNat * 1) = ⟨p, q, none⟩ := by rw [ed, eq, add_mk, add_mk]; simp
  have hll : (W.L q).length ≤ N := by
    refine Nat.le_trans ?_ hlen
    show (slotL W.n W.s.A q).length ≤ _
    unfold slotL
    rw [if_pos hq]
    exact List.length_filter_le _ _
  (refine n_ldA (.raw (W.sl q)) rfl (by first | exact trivial | rfl) rfl (fun _ w1 _ hI1 => load_cell aggTms (wb_slot (hI1.res 0 rfl rfl) (by omega) ea)) ?_; (refine gs ?_))
  (repeat ((first | refine n_must rfl ?_ | refine n_chk (drawF_ok (by decide +kernel)) ?_ | refine n_same rfl ?_ | ((first | refine n_must ?_ ?_ | refine n_brT ?_ ?_); (focus (first | (simp [hn0, ed, eq]; done) | (simp [hn0, ed, eq]; omega) | (simp only [hn0, ed, eq]; simp; done)))) | (refine n_brF ?_ ?_; (focus (first | (simp [hn0, ed, eq]; done) | (simp [hn0, ed, eq]; omega) | (simp only [hn0, ed, eq]; simp; done)))) | refine n_must (by (with_reducible refine and_shape ?_) <;> kernel_rfl) ?_); (refine gs ?_)))
  refine n_build1 rfl rfl elemTm rfl rfl rfl rfl rfl rfl rfl rfl rfl ?_
  (refine gs ?_)
  refine gw ?_
  (refine n_ldA (.raw (W.sl q)) rfl (by first | exact trivial | rfl) rfl (fun _ w1 _ hI1 => load_cell aggTms (wb_slot (hI1.res 0 rfl rfl) (by omega) ea)) ?_; (refine gs ?_))
  refine gw ?_
  refine n_append (nv := [.int .i64 (IntKind.i64.wrap (W.s.now + min (max d 1) 1099511627776)), .int .i64 (W.s.last + 1), .int .i64 k, .int .i64 i]) 3 rfl rfl elemTm hitt hpt.1 hpt.2.1 hpt.2.2 rfl (by omega) rfl rfl rfl rfl rfl rfl (by omega) (by simp [Value.oneCell']) (by omega) (by omega) (show tms (W.L q) ++ _ = tms (W.L q ++ [⟨W.s.now + delayF d, W.s.last + 1, k, i⟩]) by rw [ed]; exact tms_add _ ⟨W.s.now + delayF d, W.s.last + 1, k, i⟩) fun g c => ?_
  (refine gs ?_)
  (repeat ((first | refine n_must rfl ?_ | refine n_chk (drawF_ok (by decide +kernel)) ?_ | refine n_same rfl ?_ | ((first | refine n_must ?_ ?_ | refine n_brT ?_ ?_); (focus (first | (simp [hn0, ed, eq]; done) | (simp [hn0, ed, eq]; omega) | (simp only [hn0, ed, eq]; simp; done)))) | (refine n_brF ?_ ?_; (focus (first | (simp [hn0, ed, eq]; done) | (simp [hn0, ed, eq]; omega) | (simp only [hn0, ed, eq]; simp; done)))) | refine n_must (by (with_reducible refine and_shape ?_) <;> kernel_rfl) ?_); (refine gs ?_)))
  refine n_storeA (n := p) (off := q) (k := 1) (ty := 58) (l := wcl W.sl W.n W.mb W.s.now (W.s.last + 1)) (rv := .raw (.slice (some ⟨g, 0, none⟩) ((W.L q).length + 1) c)) (v := .slice (some ⟨g, 0, none⟩) ((W.L q).length + 1) c) 0 (wbRes p (wcl (fun j => if j = q then .slice (some ⟨g, 0, none⟩) ((W.L q).length + 1) c else W.sl j) W.n W.mb W.s.now (W.s.last + 1))) _ rfl rfl rfl ea rfl rfl sizeTms rfl rfl rfl rfl rfl (by simp [cellsRes]) (fun w h => h) (by rw [wcl_len]; omega) (wcl_set_slot (by omega)) (fun w w' _ _ h => h) (by simp [cellsRes]) ?_
  (refine gs ?_)
  refine gw ?_
  (refine n_ldA (.raw (.map (some W.mb))) rfl (by first | exact trivial | rfl) rfl (fun _ w1 _ hI1 => load_cell aggMapI (wb_mb (hI1.res 0 rfl rfl) rfl)) ?_; (refine gs ?_))
  refine gw ?_
  refine n_mapUpdate (E := intE) (ev' := intV) (i := 2) (b := W.mb) (kr := .int .i64 (W.s.last + 1)) (vr := .int .i64 ((IntKind.i64.wrap (W.s.now + min (max d 1) 1099511627776)).tmod (W.n : Int))) (ρ := plRes W.mb W.m) (plRes W.mb (mput W.m (W.s.last + 1) q)) W.m (W.s.last + 1) ((IntKind.i64.wrap (W.s.now + min (max d 1) 1099511627776)).tmod (W.n : Int)) intK rfl rfl rfl rfl rfl rfl (wf_of_i64 (by constructor <;> omega)) rfl rfl rfl rfl rfl (by simp [plRes]) rfl (fun _ _ _ _ h => by exact h) (fun _ _ _ _ _ _ _ h => by rw [ed, eq] at h; exact h) ?_
  (refine gs ?_)
  refine gw ?_
  refine n_ret0 rfl rfl fun ids' w' hp hI' => ⟨W.arm d k i q (some ⟨g, 0, none⟩, c), rfl, ⟨arm_ok hW eq, rfl, rfl⟩, ?_⟩
  have hrl : (W.rows.set q Res.none)[q]? = some Res.none := by rw [List.getElem?_set_self (by simp; omega)]
  have hI2 := hI'.join 1 3 (by decide) rfl rfl rfl rfl rfl rfl (fun h => all_in h hrl)
  have h := post_shut (ids := [0, 0, 0]) (mem := whM p _ _ W.mb _) (ρ := whRes p W) hI2 rfl [0, 1, 2] (.res rfl (.res rfl (.res rfl .nil))) (by decide)
  have e1 : (W.arm d k i q (some ⟨g, 0, none⟩, c)).cells = wcl (fun j => if j = q then .slice (some ⟨g, 0, none⟩) ((W.L q).length + 1) c else W.sl j) W.n W.mb W.s.now (W.s.last + 1) := by
    refine wcl_congr fun j _ => ?_
    by_cases e : j = q
    · subst e
      simp only [Wh.sl, arm_L hq eq, if_pos]
      simp [Wh.arm]
    · simp only [Wh.sl, arm_L hq eq, if_neg e]
      simp [Wh.arm, e]
  have e2 : (W.rows.set q Res.none).set q (tRow (some ⟨g, 0, none⟩) ((W.L q).length + 1) c (tms (W.L q ++ [⟨W.s.now + delayF d, W.s.last + 1, k, i⟩]))) = (W.arm d k i q (some ⟨g, 0, none⟩, c)).rows := by
    refine map_upd ?_ fun j _ e => ?_
    · simp only [Wh.row, arm_L hq eq, if_pos]
      simp [Wh.arm]
    · simp only [Wh.row, arm_L hq eq, if_neg e]
      simp [Wh.arm, e]
  rw [← e1, e2] at h
  exact h
end Go.Proofs.Ytjmaddmklogchaa
