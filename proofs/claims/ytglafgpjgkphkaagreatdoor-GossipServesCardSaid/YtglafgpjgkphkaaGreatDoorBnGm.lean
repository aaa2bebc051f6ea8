/- Package views: the views as a part of memory; New, put, Tell. Package views: Tell. -/
import Derived.Test.YtglafgpjgkphkaaGreatDoorVwA
import Derived.Test.YtglafgpjgkphkaaGreatDoorBnY
import Derived.Test.YtglafgpjgkphkaaGreatDoorBnX
import Derived.Test.YtglafgpjgkphkaaGreatDoorRange
import Derived.Test.YtglafgpjgkphkaaGreatDoorChecked
import Derived.DeepKeys4
namespace Go.Proofs.YtglafgpjgkphkaaGreatDoor
section
set_option maxRecDepth 100000
set_option linter.unusedSimpArgs false
set_option linter.unusedVariables false
set_option maxHeartbeats 4000000
open Go.RowKit
open Go.Maps (Keyed)

abbrev pV (b : Nat) : Value := .pointer (some ⟨b, 0, none⟩)
abbrev intV (n : Int) : Value := .int .i64 n
abbrev FreshR (w w' : World) (ρ : Res) : Prop := Frm [] w w' ∧ ρ.R w' ∧ (∀ x ∈ ρ.fp, w.heap.size ≤ x) ∧ ∀ x ∈ ρ.fp, x < w'.heap.size
theorem wf_of_i64 {x : Int} (h : i64 x) : (Lit.int .i64 x).wf = true := by
  simp [Lit.wf, IntKind.min, IntKind.max, IntKind.bits, IntKind.signed]
  omega

/-! ### Keys -/
theorem cellsKey : Tryz.prog.cellsOf 108 = 2 := by kernel_rfl
theorem wideKey : (match Tryz.prog.underlying 108 with | some (.array _ _) | some (.struct _) => true | _ => false) = true := by rw [Tryz.underlying108]
theorem keyK : Keyed Tryz.prog 108 := Keyed.of_law (deep_law_laid (by kernel_rfl) (m := 3) (by omega) (of_decide_eq_true (by kernel_rfl)) (by kernel_rfl) wideKey)
theorem keyTy : Tryz.prog.keyType 108 = true := by kernel_rfl
theorem typesN : ∃ n, Tryz.prog.types.size = n + 1 := ⟨Tryz.prog.types.size - 1, (Nat.sub_add_cancel (of_decide_eq_true (by kernel_rfl : decide (1 ≤ Tryz.prog.types.size) = true))).symm⟩
theorem key_of {r : Int} {s : ByteArray} (hr : i64 r) (hs : s.size ≤ maxLen) : ∃ l, keyOf Tryz.prog 108 (.agg #[.int .i64 r, .string s]) = some l := by
  have hw := wf_of_i64 hr
  have hf : (Value.agg #[.int .i64 r, .string s]).formed Tryz.prog 108 = true := by simp [Value.formed, Tryz.underlying108, cellsKey]
  have hci : Tryz.prog.cellsOf 3 = 1 := by kernel_rfl
  have hcs : Tryz.prog.cellsOf 9 = 1 := by kernel_rfl
  obtain ⟨n, hn⟩ := typesN
  unfold keyOf
  simp only [Tryz.underlying108, keyTy, hf, Bool.and_self, if_true, Value.cells, hn]
  simp only [Program.keyLits, Tryz.underlying108, cellsKey]
  simp [hci, hcs, Tryz.underlying3, Tryz.underlying9, hw, hs]
def keyE : KeyEnc Tryz.prog 108 (Int × ByteArray) where
  ek x := .agg #[.int .i64 x.1, .string x.2]
  ok x := i64 x.1 ∧ x.2.size ≤ maxLen
  key x hx := key_of hx.1 hx.2
  inj x y h := by
    simp only [Value.agg.injEq] at h
    simp at h
    exact Prod.ext h.1 h.2

/-! ### The part -/
structure Vs where
  me : Int
  V : List ((Int × ByteArray) × Vw)
  ns : List Int
abbrev vwV (v : Vw) : Value := v.val
abbrev Vs.cells (s : Vs) (mb nb : Nat) : List Value := [.int .i64 s.me, .int .i64 (s.ns.length : Nat), .map (some mb), .slice (some ⟨nb, 0, none⟩) s.ns.length s.ns.length]
def viewsRes (p mb nb : Nat) (s : Vs) : Res where
  fp := [p, mb, nb]
  R w := Blk w p (s.cells mb nb).toArray 97 ∧ MapOf keyE vwV w mb s.V ∧ Blk w nb (s.ns.map intV).toArray 3 ∧ [p, mb, nb].Nodup
  stable := fun w w' hk ⟨h1, h2, h3, h4⟩ => ⟨(hk p (by simp)).trans h1, h2.keep (hk mb (by simp)), (hk nb (by simp)).trans h3, h4⟩
theorem viewsRes_lt {p mb nb : Nat} {s : Vs} {w : World} (h : (viewsRes p mb nb s).R w) : ∀ x ∈ (viewsRes p mb nb s).fp, x < w.heap.size := by
  obtain ⟨h1, h2, h3, _⟩ := h
  intro x hx
  simp [viewsRes] at hx
  rcases hx with rfl | rfl | rfl
  · exact h1.lt
  · exact h2.lt
  · exact h3.lt
theorem blk_at {w : World} {b j : Nat} {l : List Value} {t : TypeId} (h : Blk w b l.toArray t) {a : Addr} {u : Value} (hu : l[j]? = some u) (ha : a = (⟨b, 0, none⟩ : Addr).add j) : w.cell? a = some u := cellsRes_at (b := b) (l := l) (t := t) h hu ha
theorem aggInt : aggB Tryz.prog 3 = some false := by kernel_rfl
theorem aggStr : aggB Tryz.prog 9 = some false := by kernel_rfl
theorem aggVMap : aggB Tryz.prog 94 = some false := by kernel_rfl
theorem aggInts : aggB Tryz.prog 95 = some false := by kernel_rfl
theorem sizeInt : sizeB Tryz.prog 3 = some 1 := by kernel_rfl
theorem lkV (m : Option Vw) : (m.map vwV).getD Vw.zero.val = (m.getD Vw.zero).val := by cases m <;> rfl
theorem intInfo : (Tryz.prog.info? 3).map (fun i => (i.zero, i.size, i.bytes)) = some (some (.int .i64 0), 1, 8) := by kernel_rfl

/-! ### New -/
def newErr (me n : Int) : Int := if n < 2 ∨ 16 < n then 1 else if me < 0 ∨ n ≤ me then 3 else 0
theorem newErr_0 {me n : Int} (h : newErr me n = 0) : 2 ≤ n ∧ n ≤ 16 ∧ 0 ≤ me ∧ me < n := by
  unfold newErr at h
  split at h
  · omega
  · split at h <;> omega
theorem vNew_bad {me n : Int} (h : newErr me n ≠ 0) (w : World) : Calls Tryz.prog 18 #[.int .i64 me, .int .i64 n] w fun e w' => e = .returned (.tuple #[.pointer none, .int .i64 (newErr me n)]) ∧ Frm [] w w' := by
  have hI := Inv.nil (P := Tryz.prog) (N := 28) (S := []) (os := []) w
  unfold newErr at h ⊢
  refine calls_sm (cx 28 [] [] w) (vals := [.int .i64 me, .int .i64 n]) mixed Tryz.func18 rfl rfl rfl hI rfl (st rfl ?_); conv => arg 3; whnf
  by_cases h1 : n < 2
  · (repeat ((first | refine n_must rfl ?_ | refine n_chk (drawF_ok (by decide +kernel)) ?_ | refine n_same rfl ?_ | ((first | refine n_must ?_ ?_ | refine n_brT ?_ ?_); (focus (first | (simp [h1]; done) | (simp [h1]; omega) | (simp only [h1]; simp; done)))) | (refine n_brF ?_ ?_; (focus (first | (simp [h1]; done) | (simp [h1]; omega) | (simp only [h1]; simp; done)))) | refine n_must (by (with_reducible refine and_shape ?_) <;> kernel_rfl) ?_); (refine gs ?_)))
    rw [if_pos (.inl h1)]
    exact n_ret0 rfl rfl fun ids' w' hp hI' => ⟨rfl, hI'.frm⟩
  by_cases h2 : 16 < n
  · (repeat ((first | refine n_must rfl ?_ | refine n_chk (drawF_ok (by decide +kernel)) ?_ | refine n_same rfl ?_ | ((first | refine n_must ?_ ?_ | refine n_brT ?_ ?_); (focus (first | (simp [h1, h2]; done) | (simp [h1, h2]; omega) | (simp only [h1, h2]; simp; done)))) | (refine n_brF ?_ ?_; (focus (first | (simp [h1, h2]; done) | (simp [h1, h2]; omega) | (simp only [h1, h2]; simp; done)))) | refine n_must (by (with_reducible refine and_shape ?_) <;> kernel_rfl) ?_); (refine gs ?_)))
    rw [if_pos (.inr h2)]
    exact n_ret0 rfl rfl fun ids' w' hp hI' => ⟨rfl, hI'.frm⟩
  rw [if_neg (by omega)] at h ⊢
  by_cases h3 : me < 0
  · (repeat ((first | refine n_must rfl ?_ | refine n_chk (drawF_ok (by decide +kernel)) ?_ | refine n_same rfl ?_ | ((first | refine n_must ?_ ?_ | refine n_brT ?_ ?_); (focus (first | (simp [h1, h2, h3]; done) | (simp [h1, h2, h3]; omega) | (simp only [h1, h2, h3]; simp; done)))) | (refine n_brF ?_ ?_; (focus (first | (simp [h1, h2, h3]; done) | (simp [h1, h2, h3]; omega) | (simp only [h1, h2, h3]; simp; done)))) | refine n_must (by (with_reducible refine and_shape ?_) <;> kernel_rfl) ?_); (refine gs ?_)))
    rw [if_pos (.inl h3)]
    exact n_ret0 rfl rfl fun ids' w' hp hI' => ⟨rfl, hI'.frm⟩
  by_cases h4 : n ≤ me
  · (repeat ((first | refine n_must rfl ?_ | refine n_chk (drawF_ok (by decide +kernel)) ?_ | refine n_same rfl ?_ | ((first | refine n_must ?_ ?_ | refine n_brT ?_ ?_); (focus (first | (simp [h1, h2, h3, h4]; done) | (simp [h1, h2, h3, h4]; omega) | (simp only [h1, h2, h3, h4]; simp; done)))) | (refine n_brF ?_ ?_; (focus (first | (simp [h1, h2, h3, h4]; done) | (simp [h1, h2, h3, h4]; omega) | (simp only [h1, h2, h3, h4]; simp; done)))) | refine n_must (by (with_reducible refine and_shape ?_) <;> kernel_rfl) ?_); (refine gs ?_)))
    rw [if_pos (.inr h4)]
    exact n_ret0 rfl rfl fun ids' w' hp hI' => ⟨rfl, hI'.frm⟩
  rw [if_neg (by omega)] at h
  exact absurd rfl h

theorem vNew_good {me n : Int} (h : newErr me n = 0) (w : World) : Calls Tryz.prog 18 #[.int .i64 me, .int .i64 n] w fun e w' => ∃ y : Nat × Nat × Nat, e = .returned (.tuple #[pV y.1, .int .i64 0]) ∧ True ∧ FreshR w w' (viewsRes y.1 y.2.1 y.2.2 ⟨me, [], List.replicate n.toNat 0⟩) := by
  have hI := Inv.nil (P := Tryz.prog) (N := 28) (S := []) (os := []) w
  obtain ⟨it, hit, hparts⟩ := Option.map_eq_some_iff.1 intInfo
  simp only [Prod.mk.injEq] at hparts
  obtain ⟨h1, h2, h3, h4⟩ := newErr_0 h
  obtain ⟨k, rfl⟩ : ∃ k : Nat, n = (k : Int) := ⟨n.toNat, by omega⟩
  have q1 : ¬ (k : Int) < 2 := by omega
  have q2 : ¬ (16 : Int) < (k : Int) := by omega
  have q3 : ¬ me < 0 := by omega
  have q4 : ¬ (k : Int) ≤ me := by omega
  refine calls_sm (cx 28 [] [] w) (vals := [.int .i64 me, .int .i64 (k : Nat)]) mixed Tryz.func18 rfl rfl rfl hI rfl (st rfl ?_); conv => arg 3; whnf
  (repeat ((first | refine n_must rfl ?_ | refine n_chk (drawF_ok (by decide +kernel)) ?_ | refine n_same rfl ?_ | ((first | refine n_must ?_ ?_ | refine n_brT ?_ ?_); (focus (first | (simp [q1, q2, q3, q4]; done) | (simp [q1, q2, q3, q4]; omega) | (simp only [q1, q2, q3, q4]; simp; done)))) | (refine n_brF ?_ ?_; (focus (first | (simp [q1, q2, q3, q4]; done) | (simp [q1, q2, q3, q4]; omega) | (simp only [q1, q2, q3, q4]; simp; done)))) | refine n_must (by (with_reducible refine and_shape ?_) <;> kernel_rfl) ?_); (refine gs ?_)))
  refine n_makeMap (fun b => ⟨[b], fun w => MapOf keyE vwV w b [], fun _ _ hk h => h.keep (hk b (by simp))⟩) 94 rfl rfl rfl (fun _ => rfl) (fun w b h => MapOf.empty _ _ h) fun mb hmb => ?_
  (refine gs ?_)
  refine gw ?_
  refine n_makeSlice (n := k) 3 rfl rfl rfl Tryz.underlying95 hit hparts.1 (by rw [hparts.2.1]; rfl) hparts.2.2 rfl rfl (by omega) (by omega) fun nb hnb => ?_
  (refine gs ?_)
  refine gw ?_
  refine n_ret rfl fun ids' w' hp hI' => ?_
  obtain ⟨p, rfl⟩ := ext1 hp (by rw [hI'.len]; rfl)
  have hB := hI'.at0 2 rfl rfl rfl
  have hM : MapOf keyE vwV w' mb [] := hI'.res 0 rfl rfl
  have hN : Blk w' nb (List.replicate k [Value.int IntKind.i64 0]).flatten.toArray 3 := hI'.res 1 rfl rfl
  have n1 : p ≠ mb := by simpa using hI'.ne_res 2 0 (by decide) rfl rfl rfl rfl rfl
  have n2 : p ≠ nb := by simpa [cellsRes] using hI'.ne_res 2 1 (by decide) rfl rfl rfl rfl rfl
  have n3 : mb ≠ nb := by simpa [cellsRes] using hI'.res_res 0 1 (by decide) rfl rfl rfl rfl mb (by simp)
  have hP := hI'.new_at 2 rfl rfl rfl rfl (by simp)
  have hall : (viewsRes p mb nb ⟨me, [], List.replicate (k : Int).toNat 0⟩).R w' := by
    refine ⟨?_, hM, ?_, by simp [n1, n2, n3]⟩
    · simpa [Vs.cells] using hB
    · simpa [intV] using hN
  exact ⟨_, rfl, ⟨p, mb, nb⟩, rfl, trivial, hI'.frm, hall, by simp [viewsRes]; exact ⟨hP, hmb, hnb⟩, viewsRes_lt hall⟩

/-! ### put -/
def cnt (ns : List Int) (r : Int) : Int := ns.getD r.toNat 0
def Vs.put (s : Vs) (r : Int) (x : Vw) : Vs := { s with V := mput s.V (r, x.nm) x, ns := if (mget s.V (r, x.nm)).isSome then s.ns else s.ns.set r.toNat (cnt s.ns r + 1) }
theorem Vs.put_len (s : Vs) (r : Int) (x : Vw) : (s.put r x).ns.length = s.ns.length := by
  unfold Vs.put; dsimp only; split <;> simp
theorem put_ns {p mb nb : Nat} {s : Vs} {w w' : World} {r : Int} {v : Int} (h : (viewsRes p mb nb s).R w) (hf : Frm [nb] w w') (hb : Blk w' nb ((s.ns.set r.toNat v).map intV).toArray 3) : (viewsRes p mb nb { s with ns := s.ns.set r.toNat v }).R w' := by
  have hlt := viewsRes_lt h
  obtain ⟨h1, h2, h3, h4⟩ := h
  simp only [List.nodup_cons, List.mem_cons, not_or, List.not_mem_nil, or_false] at h4
  have hk : ∀ x ∈ [p, mb], w'.heap[x]? = w.heap[x]? := fun x hx => hf.block x (hlt x (by simp [viewsRes] at hx ⊢; omega)) (by simp at hx ⊢; rcases hx with rfl | rfl <;> omega)
  refine ⟨?_, h2.keep (hk mb (by simp)), hb, by simp; omega⟩
  have := (hk p (by simp)).trans h1
  unfold Blk
  simpa [Vs.cells] using this
theorem put_map {p mb nb : Nat} {s : Vs} {w w' : World} {V' : List ((Int × ByteArray) × Vw)} (h : (viewsRes p mb nb s).R w) (hf : Frm [mb] w w') (hb : MapOf keyE vwV w' mb V') : (viewsRes p mb nb { s with V := V' }).R w' := by
  have hlt := viewsRes_lt h
  obtain ⟨h1, h2, h3, h4⟩ := h
  simp only [List.nodup_cons, List.mem_cons, not_or, List.not_mem_nil, or_false] at h4
  have hk : ∀ x ∈ [p, nb], w'.heap[x]? = w.heap[x]? := fun x hx => hf.block x (hlt x (by simp [viewsRes] at hx ⊢; omega)) (by simp at hx ⊢; rcases hx with rfl | rfl <;> omega)
  exact ⟨(hk p (by simp)).trans h1, hb, (hk nb (by simp)).trans h3, by simp; omega⟩

theorem put_ok {p mb nb : Nat} {s : Vs} {w : World} (hR : (viewsRes p mb nb s).R w) {r : Int} (hr : 0 ≤ r ∧ r < s.ns.length) (hl : s.ns.length ≤ 1000) (hc : 0 ≤ cnt s.ns r ∧ cnt s.ns r ≤ 1000000) (x : Vw) (hx : x.nm.size ≤ maxLen) :
    Calls Tryz.prog 46 #[pV p, .int .i64 r, x.val] w fun e w' => e = .returned (.tuple #[]) ∧ Post (viewsRes p mb nb s) (viewsRes p mb nb (s.put r x)) w w' := by
  have hI : Inv (cx 39 [(2, .then [(0, []), (1, []), (2, []), (3, []), (4, [])] (.fork 5 [] (.of [(6, []), (7, []), (8, []), (9, []), (10, []), (11, [])]) (.cons 9 [4, 3] (.of [(5, []), (6, []), (7, []), (8, []), (10, []), (11, [])]))))] (viewsRes p mb nb s).fp w) w [0] [⟨97, [.res (viewsRes p mb nb s)], true⟩] := (Inv.nil w).consR (by simp) hR (viewsRes_lt hR) (by simp)
  have hkok : keyE.ok (r, x.nm) := ⟨by constructor <;> omega, hx⟩
  have ec : IntKind.i64.wrap (cnt s.ns r + 1) = cnt s.ns r + 1 := w64 (by omega) (by omega)
  have hrn : r.toNat < s.ns.length := by omega
  have hget : (s.ns.map intV)[r.toNat]? = some (.int .i64 (cnt s.ns r)) := by simp [cnt, List.getD, hrn]
  refine calls_sm (cx 39 [(2, .then [(0, []), (1, []), (2, []), (3, []), (4, [])] (.fork 5 [] (.of [(6, []), (7, []), (8, []), (9, []), (10, []), (11, [])]) (.cons 9 [4, 3] (.of [(5, []), (6, []), (7, []), (8, []), (10, []), (11, [])]))))] (viewsRes p mb nb s).fp w) (vals := [.raw (pV p), .int .i64 r, .agg x.sv]) mixed Tryz.func46 rfl rfl rfl hI rfl (st rfl ?_); conv => arg 3; whnf
  refine gg ?_
  refine n_ldDI (.raw (.map (some mb))) rfl rfl (fun _ w1 _ hI1 => load_cell aggVMap (blk_at (hI1.res 0 rfl rfl).1 (j := 2) rfl rfl)) ?_
  (refine gs ?_)
  refine gg ?_
  refine n_both ?_ ?_
  · (refine gs ?_)
    refine gg ?_
    refine n_lookup (E := keyE) (ev' := vwV) (b := mb) (kr := .agg [.int .i64 r, .str x.nm]) (zr := .agg Vw.zero.sv) (z := Vw.zero.val) s.V (r, x.nm) (.tup [.agg ((mget s.V (r, x.nm)).getD Vw.zero).sv, .bool (mget s.V (r, x.nm)).isSome]) keyK rfl rfl rfl rfl rfl rfl hkok rfl rfl (by rw [lkV]; rfl) (fun _ w1 _ hI1 => by exact (hI1.res 0 rfl rfl).2.1) ?_
    (refine gs ?_)
    refine gg ?_
    cases hm : (mget s.V (r, x.nm)).isSome with
    | true =>
      refine gw ?_
      refine n_ldDI (.raw (.map (some mb))) rfl rfl (fun _ w1 _ hI1 => load_cell aggVMap (blk_at (hI1.res 0 rfl rfl).1 (j := 2) rfl rfl)) ?_
      (refine gs ?_)
      refine gg ?_
      refine n_mapUpdate (E := keyE) (ev' := vwV) (i := 0) (b := mb) (kr := .agg [.int .i64 r, .str x.nm]) (vr := .agg x.sv) (ρ := viewsRes p mb nb s) (viewsRes p mb nb (s.put r x)) s.V (r, x.nm) x keyK rfl rfl rfl rfl rfl rfl hkok rfl rfl rfl rfl rfl (by simp [viewsRes]) rfl (fun _ _ _ _ h => by exact h.2.1) (fun _ _ _ _ _ hR1 hf1 h => by
        have := put_map hR1 hf1 h
        simpa [Vs.put, hm] using this) ?_
      (refine gs ?_)
      refine gg ?_
      exact n_end0 rfl rfl fun ids' w' hp hI' => ⟨rfl, post_res hI' rfl 0 rfl rfl rfl⟩
    | false =>
      refine gw ?_
      refine n_ldI (.raw (.slice (some ⟨nb, 0, none⟩) s.ns.length s.ns.length)) rfl rfl (fun _ w1 _ hI1 => load_cell aggInts (blk_at (hI1.res 0 rfl rfl).1 (j := 3) rfl rfl)) ?_
      (refine gs ?_)
      refine gw ?_
      refine n_ldI (.int .i64 (cnt s.ns r)) rfl rfl (fun _ w1 _ hI1 => load_cell aggInt (blk_at (hI1.res 0 rfl rfl).2.2.1 (j := r.toNat) hget (by simp))) ?_
      (refine gs ?_)
      (repeat ((first | refine n_must rfl ?_ | refine n_chk (drawF_ok (by decide +kernel)) ?_ | refine n_same rfl ?_ | ((first | refine n_must ?_ ?_ | refine n_brT ?_ ?_); (focus (first | (simp [ec]; done) | (simp [ec]; omega) | (simp only [ec]; simp; done)))) | (refine n_brF ?_ ?_; (focus (first | (simp [ec]; done) | (simp [ec]; omega) | (simp only [ec]; simp; done)))) | refine n_must (by (with_reducible refine and_shape ?_) <;> kernel_rfl) ?_); (refine gs ?_)))
      refine n_storeA (n := nb) (off := r.toNat) (k := 1) (l := s.ns.map intV) (rv := .int .i64 (IntKind.i64.wrap (cnt s.ns r + 1))) (v := .int .i64 (cnt s.ns r + 1)) 0 (viewsRes p mb nb { s with ns := s.ns.set r.toNat (cnt s.ns r + 1) }) ((s.ns.set r.toNat (cnt s.ns r + 1)).map intV) rfl rfl rfl (by rw [add_mk]; simp) rfl (by rw [ec]; rfl) sizeInt rfl rfl rfl rfl rfl (by simp [viewsRes]) (fun w h => h.2.2.1) (by simp; omega) (map_set hrn) (fun w w' h hf hb => put_ns h hf hb) (by simp [viewsRes]) ?_
      (refine gs ?_)
      refine gw ?_
      refine n_ldDI (.raw (.map (some mb))) rfl rfl (fun _ w1 _ hI1 => load_cell aggVMap (blk_at (hI1.res 0 rfl rfl).1 (j := 2) rfl rfl)) ?_
      (refine gs ?_)
      refine gg ?_
      refine n_mapUpdate (E := keyE) (ev' := vwV) (i := 0) (b := mb) (kr := .agg [.int .i64 r, .str x.nm]) (vr := .agg x.sv) (ρ := viewsRes p mb nb { s with ns := s.ns.set r.toNat (cnt s.ns r + 1) }) (viewsRes p mb nb (s.put r x)) s.V (r, x.nm) x keyK rfl rfl rfl rfl rfl rfl hkok rfl rfl rfl rfl rfl (by simp [viewsRes]) rfl (fun _ _ _ _ h => by exact h.2.1) (fun _ _ _ _ _ hR1 hf1 h => by
        have := put_map hR1 hf1 h
        simpa [Vs.put, hm] using this) ?_
      (refine gs ?_)
      refine gg ?_
      exact n_end0 rfl rfl fun ids' w' hp hI' => ⟨rfl, post_res hI' rfl 0 rfl rfl rfl⟩
  · (refine gs ?_)
    refine gg ?_
    refine n_ldRI (.raw (.map (some mb))) rfl (fun _ w1 _ hI1 => load_cell aggVMap (blk_at (hI1.res 0 rfl rfl).1 (j := 2) rfl rfl)) ?_
    (refine gs ?_)
    refine gg ?_
    refine n_lookup (E := keyE) (ev' := vwV) (b := mb) (kr := .agg [.int .i64 r, .str x.nm]) (zr := .agg Vw.zero.sv) (z := Vw.zero.val) s.V (r, x.nm) (.tup [.agg ((mget s.V (r, x.nm)).getD Vw.zero).sv, .bool (mget s.V (r, x.nm)).isSome]) keyK rfl rfl rfl rfl rfl rfl hkok rfl rfl (by rw [lkV]; rfl) (fun _ w1 _ hI1 => by exact (hI1.res 0 rfl rfl).2.1) ?_
    (refine gs ?_)
    refine gg ?_
    cases hm : (mget s.V (r, x.nm)).isSome with
    | true =>
      refine gw ?_
      refine n_ldDI (.raw (.map (some mb))) rfl rfl (fun _ w1 _ hI1 => load_cell aggVMap (blk_at (hI1.res 0 rfl rfl).1 (j := 2) rfl rfl)) ?_
      (refine gs ?_)
      refine gg ?_
      refine n_mapUpdate (E := keyE) (ev' := vwV) (i := 0) (b := mb) (kr := .agg [.int .i64 r, .str x.nm]) (vr := .agg x.sv) (ρ := viewsRes p mb nb s) (viewsRes p mb nb (s.put r x)) s.V (r, x.nm) x keyK rfl rfl rfl rfl rfl rfl hkok rfl rfl rfl rfl rfl (by simp [viewsRes]) rfl (fun _ _ _ _ h => by exact h.2.1) (fun _ _ _ _ _ hR1 hf1 h => by
        have := put_map hR1 hf1 h
        simpa [Vs.put, hm] using this) ?_
      (refine gs ?_)
      refine gg ?_
      exact n_end0 rfl rfl fun ids' w' hp hI' => ⟨rfl, post_res hI' rfl 0 rfl rfl rfl⟩
    | false =>
      refine gw ?_
      refine n_ldI (.raw (.slice (some ⟨nb, 0, none⟩) s.ns.length s.ns.length)) rfl rfl (fun _ w1 _ hI1 => load_cell aggInts (blk_at (hI1.res 0 rfl rfl).1 (j := 3) rfl rfl)) ?_
      (refine gs ?_)
      refine gw ?_
      refine n_ldI (.int .i64 (cnt s.ns r)) rfl rfl (fun _ w1 _ hI1 => load_cell aggInt (blk_at (hI1.res 0 rfl rfl).2.2.1 (j := r.toNat) hget (by simp))) ?_
      (refine gs ?_)
      (repeat ((first | refine n_must rfl ?_ | refine n_chk (drawF_ok (by decide +kernel)) ?_ | refine n_same rfl ?_ | ((first | refine n_must ?_ ?_ | refine n_brT ?_ ?_); (focus (first | (simp [ec]; done) | (simp [ec]; omega) | (simp only [ec]; simp; done)))) | (refine n_brF ?_ ?_; (focus (first | (simp [ec]; done) | (simp [ec]; omega) | (simp only [ec]; simp; done)))) | refine n_must (by (with_reducible refine and_shape ?_) <;> kernel_rfl) ?_); (refine gs ?_)))
      refine n_storeA (n := nb) (off := r.toNat) (k := 1) (l := s.ns.map intV) (rv := .int .i64 (IntKind.i64.wrap (cnt s.ns r + 1))) (v := .int .i64 (cnt s.ns r + 1)) 0 (viewsRes p mb nb { s with ns := s.ns.set r.toNat (cnt s.ns r + 1) }) ((s.ns.set r.toNat (cnt s.ns r + 1)).map intV) rfl rfl rfl (by rw [add_mk]; simp) rfl (by rw [ec]; rfl) sizeInt rfl rfl rfl rfl rfl (by simp [viewsRes]) (fun w h => h.2.2.1) (by simp; omega) (map_set hrn) (fun w w' h hf hb => put_ns h hf hb) (by simp [viewsRes]) ?_
      (refine gs ?_)
      refine gw ?_
      refine n_ldDI (.raw (.map (some mb))) rfl rfl (fun _ w1 _ hI1 => load_cell aggVMap (blk_at (hI1.res 0 rfl rfl).1 (j := 2) rfl rfl)) ?_
      (refine gs ?_)
      refine gg ?_
      refine n_mapUpdate (E := keyE) (ev' := vwV) (i := 0) (b := mb) (kr := .agg [.int .i64 r, .str x.nm]) (vr := .agg x.sv) (ρ := viewsRes p mb nb { s with ns := s.ns.set r.toNat (cnt s.ns r + 1) }) (viewsRes p mb nb (s.put r x)) s.V (r, x.nm) x keyK rfl rfl rfl rfl rfl rfl hkok rfl rfl rfl rfl rfl (by simp [viewsRes]) rfl (fun _ _ _ _ h => by exact h.2.1) (fun _ _ _ _ _ hR1 hf1 h => by
        have := put_map hR1 hf1 h
        simpa [Vs.put, hm] using this) ?_
      (refine gs ?_)
      refine gg ?_
      exact n_end0 rfl rfl fun ids' w' hp hI' => ⟨rfl, post_res hI' rfl 0 rfl rfl rfl⟩
end
section
set_option maxRecDepth 100000
set_option linter.unusedSimpArgs false
set_option linter.unusedVariables false
set_option maxHeartbeats 4000000
open Go.RowKit

def wr (n : Int) : Int := IntKind.i64.wrap n
def Vs.last (s : Vs) (r : Int) (nm : ByteArray) : Vw := (mget s.V (r, nm)).getD Vw.zero
def Vs.tell (s : Vs) (x0 : Vw) : Vs × Int :=
  if rightB x0 = false then (s, 1) else if (mget s.V (s.me, x0.nm)).isSome = false ∧ 64 ≤ cnt s.ns s.me then (s, 102) else
  if ({ x0 with ver := (s.last s.me x0.nm).ver } : Vw) = s.last s.me x0.nm then (s, 0) else (s.put s.me { x0 with ver := wr ((s.last s.me x0.nm).ver + 1) }, 0)

theorem bytes_eq (a b : ByteArray) : (a.toList == b.toList) = decide (a = b) := by
  rw [Bool.eq_iff_iff]
  simp only [beq_iff_eq, decide_eq_true_eq]
  constructor
  · intro h
    rw [ByteArray.toList_eq, ByteArray.toList_eq] at h
    exact ByteArray.ext (Array.ext' h)
  · rintro rfl; rfl
theorem vw_eqB (x y : Vw) : (x.nm.toList == y.nm.toList && (x.cap == y.cap && (x.rc == y.rc && (x.ver == y.ver && (x.d == y.d && (x.u == y.u && true) && (x.h == y.h && true)))))) = decide (x = y) := by
  obtain ⟨a1, a2, a3, a4, a5, a6, a7⟩ := x
  obtain ⟨b1, b2, b3, b4, b5, b6, b7⟩ := y
  rw [bytes_eq, Bool.eq_iff_iff]
  simp only [Bool.and_eq_true, decide_eq_true_eq, beq_iff_eq, Vw.mk.injEq, and_true]
  constructor
  · rintro ⟨h1, h2, h3, h4, ⟨h5, h6⟩, h7⟩; exact ⟨h1, h2, h3, h4, h5, h6, h7⟩
  · rintro ⟨h1, h2, h3, h4, h5, h6, h7⟩; exact ⟨h1, h2, h3, h4, ⟨h5, h6⟩, h7⟩
theorem Tell_ok {p mb nb : Nat} {s : Vs} {w : World} (hR : (viewsRes p mb nb s).R w) (hme : 0 ≤ s.me ∧ s.me < s.ns.length) (hl : s.ns.length ≤ 1000) (hc : 0 ≤ cnt s.ns s.me ∧ cnt s.ns s.me ≤ 1000000) (nm : ByteArray) (cap rc d u h : Int) (hnm : nm.size ≤ maxLen) :
    Calls Tryz.prog 22 #[pV p, .string nm, .int .i64 cap, .int .i64 rc, .agg #[.int .i64 d, .int .i64 u], .int .i64 h] w fun e w' => e = .returned (.int .i64 (s.tell ⟨nm, cap, rc, 1, d, u, h⟩).2) ∧ Post (viewsRes p mb nb s) (viewsRes p mb nb (s.tell ⟨nm, cap, rc, 1, d, u, h⟩).1) w w' := by
  have hI : Inv (cx 71 [(4, .then [(0, []), (1, []), (2, []), (3, []), (4, []), (5, []), (6, []), (7, []), (8, []), (9, [])] (.fork 10 [] (.of [(11, []), (12, []), (13, []), (14, []), (15, []), (16, [])]) (.cons 14 [7, 3] (.of [(10, []), (11, []), (12, []), (13, []), (15, []), (16, [])]))))] (viewsRes p mb nb s).fp w) w [0] [⟨97, [.res (viewsRes p mb nb s)], true⟩] := (Inv.nil w).consR (by simp) hR (viewsRes_lt hR) (by simp)
  have hkok : keyE.ok (s.me, nm) := ⟨by constructor <;> omega, hnm⟩
  have hrn : s.me.toNat < s.ns.length := by omega
  have hget : (s.ns.map intV)[s.me.toNat]? = some (.int .i64 (cnt s.ns s.me)) := by simp [cnt, List.getD, hrn]
  have hlast : s.last s.me nm = (mget s.V (s.me, nm)).getD Vw.zero := rfl
  refine calls_sm (cx 71 [(4, .then [(0, []), (1, []), (2, []), (3, []), (4, []), (5, []), (6, []), (7, []), (8, []), (9, [])] (.fork 10 [] (.of [(11, []), (12, []), (13, []), (14, []), (15, []), (16, [])]) (.cons 14 [7, 3] (.of [(10, []), (11, []), (12, []), (13, []), (15, []), (16, [])]))))] (viewsRes p mb nb s).fp w) (vals := [.raw (pV p), .str nm, .int .i64 cap, .int .i64 rc, .agg [.int .i64 d, .int .i64 u], .int .i64 h]) mixed Tryz.func22 rfl rfl rfl hI rfl (st rfl ?_); conv => arg 3; whnf
  refine gg ?_
  refine n_sameP (.bool (rightB ⟨nm, cap, rc, 1, d, u, h⟩)) rfl rfl rfl (fun _ w1 hp1 hI1 => right_ok ⟨nm, cap, rc, 1, d, u, h⟩ w1) ?_; (refine gs ?_)
  refine gg ?_
  by_cases hr : rightB ⟨nm, cap, rc, 1, d, u, h⟩ = false
  · (repeat ((first | refine n_must rfl ?_ | refine n_chk (drawF_ok (by decide +kernel)) ?_ | refine n_same rfl ?_ | ((first | refine n_must ?_ ?_ | refine n_brT ?_ ?_); (focus (first | (simp [hr]; done) | (simp [hr]; omega) | (simp only [hr]; simp; done)))) | (refine n_brF ?_ ?_; (focus (first | (simp [hr]; done) | (simp [hr]; omega) | (simp only [hr]; simp; done)))) | refine n_must (by (with_reducible refine and_shape ?_) <;> kernel_rfl) ?_); (refine gs ?_)))
    have e : s.tell ⟨nm, cap, rc, 1, d, u, h⟩ = (s, 1) := by rw [Vs.tell, if_pos hr]
    rw [e]
    exact n_ret0 rfl rfl fun ids' w' hp hI' => ⟨rfl, post_res hI' rfl 0 rfl rfl rfl⟩
  · have hr1 : rightB ⟨nm, cap, rc, 1, d, u, h⟩ = true := by simpa using hr
    (repeat ((first | refine n_must rfl ?_ | refine n_chk (drawF_ok (by decide +kernel)) ?_ | refine n_same rfl ?_ | ((first | refine n_must ?_ ?_ | refine n_brT ?_ ?_); (focus (first | (simp [hr1]; done) | (simp [hr1]; omega) | (simp only [hr1]; simp; done)))) | (refine n_brF ?_ ?_; (focus (first | (simp [hr1]; done) | (simp [hr1]; omega) | (simp only [hr1]; simp; done)))) | refine n_must (by (with_reducible refine and_shape ?_) <;> kernel_rfl) ?_); (refine gs ?_)))
    refine n_ldDI (.raw (.map (some mb))) rfl rfl (fun _ w1 _ hI1 => load_cell aggVMap (blk_at (hI1.res 0 rfl rfl).1 (j := 2) rfl rfl)) ?_
    (refine gs ?_)
    refine gg ?_
    refine n_ldDI (.int .i64 s.me) rfl rfl (fun _ w1 _ hI1 => load_cell aggInt (blk_at (hI1.res 0 rfl rfl).1 (j := 0) rfl rfl)) ?_
    (refine gs ?_)
    refine gg ?_
    refine n_both ?_ ?_
    · (refine gs ?_)
      refine gg ?_
      refine n_lookup (E := keyE) (ev' := vwV) (b := mb) (kr := .agg [.int .i64 s.me, .str nm]) (zr := .agg Vw.zero.sv) (z := Vw.zero.val) s.V (s.me, nm) (.tup [.agg (s.last s.me nm).sv, .bool (mget s.V (s.me, nm)).isSome]) keyK rfl rfl rfl rfl rfl rfl hkok rfl rfl (by rw [lkV]; rfl) (fun _ w1 _ hI1 => by exact (hI1.res 0 rfl rfl).2.1) ?_
      (refine gs ?_)
      refine gg ?_
      cases hm : (mget s.V (s.me, nm)).isSome with
      | true =>
        have htell : s.tell ⟨nm, cap, rc, 1, d, u, h⟩ = if (⟨nm, cap, rc, (s.last s.me nm).ver, d, u, h⟩ : Vw) = s.last s.me nm then (s, 0) else (s.put s.me ⟨nm, cap, rc, wr ((s.last s.me nm).ver + 1), d, u, h⟩, 0) := by rw [Vs.tell, if_neg hr, if_neg (by simp [hm])]
        generalize s.last s.me nm = was at htell ⊢
        refine gw ?_
        by_cases hE : (⟨nm, cap, rc, was.ver, d, u, h⟩ : Vw) = was
        · refine n_brT ((vw_eqB ⟨nm, cap, rc, was.ver, d, u, h⟩ was).trans (decide_eq_true hE)) ?_
          (refine gs ?_)
          refine gw ?_
          rw [if_pos hE] at htell
          rw [htell]
          exact n_ret0 rfl rfl fun ids' w' hp hI' => ⟨rfl, post_res hI' rfl 0 rfl rfl rfl⟩
        · refine n_brF ((vw_eqB ⟨nm, cap, rc, was.ver, d, u, h⟩ was).trans (decide_eq_false hE)) ?_
          (refine gs ?_)
          refine gw ?_
          refine n_ldDI (.int .i64 s.me) rfl rfl (fun _ w1 _ hI1 => load_cell aggInt (blk_at (hI1.res 0 rfl rfl).1 (j := 0) rfl rfl)) ?_
          (refine gs ?_)
          refine gw ?_
          refine n_callR (Y := Unit) 0 (fun _ => viewsRes p mb nb (s.put s.me ⟨nm, cap, rc, wr (was.ver + 1), d, u, h⟩)) (fun _ => .tup []) (fun _ => .tuple #[]) (fun _ => True) rfl rfl (fun _ => rfl) rfl rfl rfl (fun _ w1 hp1 hI1 hR => (put_ok hR hme hl hc ⟨nm, cap, rc, wr (was.ver + 1), d, u, h⟩ hnm).mono fun e w' ⟨he, hf⟩ => ⟨(), he, trivial, hf⟩) ?_
          intro _ _
          (refine gs ?_)
          refine gw ?_
          rw [if_neg hE] at htell
          rw [htell]
          exact n_ret0 rfl rfl fun ids' w' hp hI' => ⟨rfl, post_res hI' rfl 0 rfl rfl rfl⟩
      | false =>
        refine gw ?_
        refine n_ldDI (.raw (.slice (some ⟨nb, 0, none⟩) s.ns.length s.ns.length)) rfl rfl (fun _ w1 _ hI1 => load_cell aggInts (blk_at (hI1.res 0 rfl rfl).1 (j := 3) rfl rfl)) ?_
        (refine gs ?_)
        refine gw ?_
        refine n_ldDI (.int .i64 s.me) rfl rfl (fun _ w1 _ hI1 => load_cell aggInt (blk_at (hI1.res 0 rfl rfl).1 (j := 0) rfl rfl)) ?_
        (refine gs ?_)
        refine gw ?_
        refine n_ldDI (.int .i64 (cnt s.ns s.me)) rfl rfl (fun _ w1 _ hI1 => load_cell aggInt (blk_at (hI1.res 0 rfl rfl).2.2.1 (j := s.me.toNat) hget (by simp))) ?_
        (refine gs ?_)
        refine gw ?_
        by_cases h64 : 64 ≤ cnt s.ns s.me
        · (repeat ((first | refine n_must rfl ?_ | refine n_chk (drawF_ok (by decide +kernel)) ?_ | refine n_same rfl ?_ | ((first | refine n_must ?_ ?_ | refine n_brT ?_ ?_); (focus (first | (simp [h64]; done) | (simp [h64]; omega) | (simp only [h64]; simp; done)))) | (refine n_brF ?_ ?_; (focus (first | (simp [h64]; done) | (simp [h64]; omega) | (simp only [h64]; simp; done)))) | refine n_must (by (with_reducible refine and_shape ?_) <;> kernel_rfl) ?_); (refine gs ?_)))
          have e : s.tell ⟨nm, cap, rc, 1, d, u, h⟩ = (s, 102) := by rw [Vs.tell, if_neg hr, if_pos ⟨hm, h64⟩]
          rw [e]
          exact n_ret0 rfl rfl fun ids' w' hp hI' => ⟨rfl, post_res hI' rfl 0 rfl rfl rfl⟩
        · (repeat ((first | refine n_must rfl ?_ | refine n_chk (drawF_ok (by decide +kernel)) ?_ | refine n_same rfl ?_ | ((first | refine n_must ?_ ?_ | refine n_brT ?_ ?_); (focus (first | (simp [h64]; done) | (simp [h64]; omega) | (simp only [h64]; simp; done)))) | (refine n_brF ?_ ?_; (focus (first | (simp [h64]; done) | (simp [h64]; omega) | (simp only [h64]; simp; done)))) | refine n_must (by (with_reducible refine and_shape ?_) <;> kernel_rfl) ?_); (refine gs ?_)))
          have htell : s.tell ⟨nm, cap, rc, 1, d, u, h⟩ = if (⟨nm, cap, rc, (s.last s.me nm).ver, d, u, h⟩ : Vw) = s.last s.me nm then (s, 0) else (s.put s.me ⟨nm, cap, rc, wr ((s.last s.me nm).ver + 1), d, u, h⟩, 0) := by rw [Vs.tell, if_neg hr, if_neg (by simp [h64])]
          generalize s.last s.me nm = was at htell ⊢
          by_cases hE : (⟨nm, cap, rc, was.ver, d, u, h⟩ : Vw) = was
          · refine n_brT ((vw_eqB ⟨nm, cap, rc, was.ver, d, u, h⟩ was).trans (decide_eq_true hE)) ?_
            (refine gs ?_)
            refine gw ?_
            rw [if_pos hE] at htell
            rw [htell]
            exact n_ret0 rfl rfl fun ids' w' hp hI' => ⟨rfl, post_res hI' rfl 0 rfl rfl rfl⟩
          · refine n_brF ((vw_eqB ⟨nm, cap, rc, was.ver, d, u, h⟩ was).trans (decide_eq_false hE)) ?_
            (refine gs ?_)
            refine gw ?_
            refine n_ldDI (.int .i64 s.me) rfl rfl (fun _ w1 _ hI1 => load_cell aggInt (blk_at (hI1.res 0 rfl rfl).1 (j := 0) rfl rfl)) ?_
            (refine gs ?_)
            refine gw ?_
            refine n_callR (Y := Unit) 0 (fun _ => viewsRes p mb nb (s.put s.me ⟨nm, cap, rc, wr (was.ver + 1), d, u, h⟩)) (fun _ => .tup []) (fun _ => .tuple #[]) (fun _ => True) rfl rfl (fun _ => rfl) rfl rfl rfl (fun _ w1 hp1 hI1 hR => (put_ok hR hme hl hc ⟨nm, cap, rc, wr (was.ver + 1), d, u, h⟩ hnm).mono fun e w' ⟨he, hf⟩ => ⟨(), he, trivial, hf⟩) ?_
            intro _ _
            (refine gs ?_)
            refine gw ?_
            rw [if_neg hE] at htell
            rw [htell]
            exact n_ret0 rfl rfl fun ids' w' hp hI' => ⟨rfl, post_res hI' rfl 0 rfl rfl rfl⟩
    · (refine gs ?_)
      refine gg ?_
      refine n_ldRI (.int .i64 s.me) rfl (fun _ w1 _ hI1 => load_cell aggInt (blk_at (hI1.res 0 rfl rfl).1 (j := 0) rfl rfl)) ?_
      (refine gs ?_)
      refine n_ldRI (.raw (.map (some mb))) rfl (fun _ w1 _ hI1 => load_cell aggVMap (blk_at (hI1.res 0 rfl rfl).1 (j := 2) rfl rfl)) ?_
      (refine gs ?_)
      refine gg ?_
      refine n_lookup (E := keyE) (ev' := vwV) (b := mb) (kr := .agg [.int .i64 s.me, .str nm]) (zr := .agg Vw.zero.sv) (z := Vw.zero.val) s.V (s.me, nm) (.tup [.agg (s.last s.me nm).sv, .bool (mget s.V (s.me, nm)).isSome]) keyK rfl rfl rfl rfl rfl rfl hkok rfl rfl (by rw [lkV]; rfl) (fun _ w1 _ hI1 => by exact (hI1.res 0 rfl rfl).2.1) ?_
      (refine gs ?_)
      refine gg ?_
      cases hm : (mget s.V (s.me, nm)).isSome with
      | true =>
        have htell : s.tell ⟨nm, cap, rc, 1, d, u, h⟩ = if (⟨nm, cap, rc, (s.last s.me nm).ver, d, u, h⟩ : Vw) = s.last s.me nm then (s, 0) else (s.put s.me ⟨nm, cap, rc, wr ((s.last s.me nm).ver + 1), d, u, h⟩, 0) := by rw [Vs.tell, if_neg hr, if_neg (by simp [hm])]
        generalize s.last s.me nm = was at htell ⊢
        refine gw ?_
        by_cases hE : (⟨nm, cap, rc, was.ver, d, u, h⟩ : Vw) = was
        · refine n_brT ((vw_eqB ⟨nm, cap, rc, was.ver, d, u, h⟩ was).trans (decide_eq_true hE)) ?_
          (refine gs ?_)
          refine gw ?_
          rw [if_pos hE] at htell
          rw [htell]
          exact n_ret0 rfl rfl fun ids' w' hp hI' => ⟨rfl, post_res hI' rfl 0 rfl rfl rfl⟩
        · refine n_brF ((vw_eqB ⟨nm, cap, rc, was.ver, d, u, h⟩ was).trans (decide_eq_false hE)) ?_
          (refine gs ?_)
          refine gw ?_
          refine n_ldDI (.int .i64 s.me) rfl rfl (fun _ w1 _ hI1 => load_cell aggInt (blk_at (hI1.res 0 rfl rfl).1 (j := 0) rfl rfl)) ?_
          (refine gs ?_)
          refine gw ?_
          refine n_callR (Y := Unit) 0 (fun _ => viewsRes p mb nb (s.put s.me ⟨nm, cap, rc, wr (was.ver + 1), d, u, h⟩)) (fun _ => .tup []) (fun _ => .tuple #[]) (fun _ => True) rfl rfl (fun _ => rfl) rfl rfl rfl (fun _ w1 hp1 hI1 hR => (put_ok hR hme hl hc ⟨nm, cap, rc, wr (was.ver + 1), d, u, h⟩ hnm).mono fun e w' ⟨he, hf⟩ => ⟨(), he, trivial, hf⟩) ?_
          intro _ _
          (refine gs ?_)
          refine gw ?_
          rw [if_neg hE] at htell
          rw [htell]
          exact n_ret0 rfl rfl fun ids' w' hp hI' => ⟨rfl, post_res hI' rfl 0 rfl rfl rfl⟩
      | false =>
        refine gw ?_
        refine n_ldDI (.raw (.slice (some ⟨nb, 0, none⟩) s.ns.length s.ns.length)) rfl rfl (fun _ w1 _ hI1 => load_cell aggInts (blk_at (hI1.res 0 rfl rfl).1 (j := 3) rfl rfl)) ?_
        (refine gs ?_)
        refine gw ?_
        refine n_ldDI (.int .i64 s.me) rfl rfl (fun _ w1 _ hI1 => load_cell aggInt (blk_at (hI1.res 0 rfl rfl).1 (j := 0) rfl rfl)) ?_
        (refine gs ?_)
        refine gw ?_
        refine n_ldDI (.int .i64 (cnt s.ns s.me)) rfl rfl (fun _ w1 _ hI1 => load_cell aggInt (blk_at (hI1.res 0 rfl rfl).2.2.1 (j := s.me.toNat) hget (by simp))) ?_
        (refine gs ?_)
        refine gw ?_
        by_cases h64 : 64 ≤ cnt s.ns s.me
        · (repeat ((first | refine n_must rfl ?_ | refine n_chk (drawF_ok (by decide +kernel)) ?_ | refine n_same rfl ?_ | ((first | refine n_must ?_ ?_ | refine n_brT ?_ ?_); (focus (first | (simp [h64]; done) | (simp [h64]; omega) | (simp only [h64]; simp; done)))) | (refine n_brF ?_ ?_; (focus (first | (simp [h64]; done) | (simp [h64]; omega) | (simp only [h64]; simp; done)))) | refine n_must (by (with_reducible refine and_shape ?_) <;> kernel_rfl) ?_); (refine gs ?_)))
          have e : s.tell ⟨nm, cap, rc, 1, d, u, h⟩ = (s, 102) := by rw [Vs.tell, if_neg hr, if_pos ⟨hm, h64⟩]
          rw [e]
          exact n_ret0 rfl rfl fun ids' w' hp hI' => ⟨rfl, post_res hI' rfl 0 rfl rfl rfl⟩
        · (repeat ((first | refine n_must rfl ?_ | refine n_chk (drawF_ok (by decide +kernel)) ?_ | refine n_same rfl ?_ | ((first | refine n_must ?_ ?_ | refine n_brT ?_ ?_); (focus (first | (simp [h64]; done) | (simp [h64]; omega) | (simp only [h64]; simp; done)))) | (refine n_brF ?_ ?_; (focus (first | (simp [h64]; done) | (simp [h64]; omega) | (simp only [h64]; simp; done)))) | refine n_must (by (with_reducible refine and_shape ?_) <;> kernel_rfl) ?_); (refine gs ?_)))
          have htell : s.tell ⟨nm, cap, rc, 1, d, u, h⟩ = if (⟨nm, cap, rc, (s.last s.me nm).ver, d, u, h⟩ : Vw) = s.last s.me nm then (s, 0) else (s.put s.me ⟨nm, cap, rc, wr ((s.last s.me nm).ver + 1), d, u, h⟩, 0) := by rw [Vs.tell, if_neg hr, if_neg (by simp [h64])]
          generalize s.last s.me nm = was at htell ⊢
          by_cases hE : (⟨nm, cap, rc, was.ver, d, u, h⟩ : Vw) = was
          · refine n_brT ((vw_eqB ⟨nm, cap, rc, was.ver, d, u, h⟩ was).trans (decide_eq_true hE)) ?_
            (refine gs ?_)
            refine gw ?_
            rw [if_pos hE] at htell
            rw [htell]
            exact n_ret0 rfl rfl fun ids' w' hp hI' => ⟨rfl, post_res hI' rfl 0 rfl rfl rfl⟩
          · refine n_brF ((vw_eqB ⟨nm, cap, rc, was.ver, d, u, h⟩ was).trans (decide_eq_false hE)) ?_
            (refine gs ?_)
            refine gw ?_
            refine n_ldDI (.int .i64 s.me) rfl rfl (fun _ w1 _ hI1 => load_cell aggInt (blk_at (hI1.res 0 rfl rfl).1 (j := 0) rfl rfl)) ?_
            (refine gs ?_)
            refine gw ?_
            refine n_callR (Y := Unit) 0 (fun _ => viewsRes p mb nb (s.put s.me ⟨nm, cap, rc, wr (was.ver + 1), d, u, h⟩)) (fun _ => .tup []) (fun _ => .tuple #[]) (fun _ => True) rfl rfl (fun _ => rfl) rfl rfl rfl (fun _ w1 hp1 hI1 hR => (put_ok hR hme hl hc ⟨nm, cap, rc, wr (was.ver + 1), d, u, h⟩ hnm).mono fun e w' ⟨he, hf⟩ => ⟨(), he, trivial, hf⟩) ?_
            intro _ _
            (refine gs ?_)
            refine gw ?_
            rw [if_neg hE] at htell
            rw [htell]
            exact n_ret0 rfl rfl fun ids' w' hp hI' => ⟨rfl, post_res hI' rfl 0 rfl rfl rfl⟩
end
end Go.Proofs.YtglafgpjgkphkaaGreatDoor
