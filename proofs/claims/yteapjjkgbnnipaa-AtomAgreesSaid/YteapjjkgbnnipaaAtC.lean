/- Package atom: the map of counters; New, Peek, act. -/
import Derived.Test.YteapjjkgbnnipaaAtB
import Derived.StringKeys
set_option maxRecDepth 100000
set_option linter.unusedSimpArgs false
set_option linter.unusedVariables false
set_option maxHeartbeats 2000000
namespace Go.Proofs.Yteapjjkgbnnipaa
open Go.RowKit
open Go.Maps (Keyed)

def strE : KeyEnc Try.prog 9 ByteArray := strEnc Try.prog 9 (by kernel_rfl)
theorem strK : Keyed Try.prog 9 := Keyed.of_law (Go.WideMaps.string_law (by kernel_rfl))
abbrev ctrV (s : Ctr) : Value := .agg s.cells
abbrev All := List (ByteArray × Ctr)
abbrev blocksOf (A : All) : List Nat := A.map fun x => x.2.hb
/-- The part: a map of counters. -/
def mapRes (p mb : Nat) (A : All) : Res where
  fp := p :: mb :: blocksOf A
  R w := Blk w p #[.map (some mb)] 59 ∧ MapOf strE ctrV w mb A ∧ (∀ x ∈ A, MapOf intE intV w x.2.hb x.2.holds) ∧ (p :: mb :: blocksOf A).Nodup
  stable := fun w w' hk ⟨h1, h2, h3, h4⟩ => ⟨(hk p (by simp)).trans h1, h2.keep (hk mb (by simp)), fun x hx => (h3 x hx).keep (hk _ (by simp; exact .inr (.inr ⟨x.1, x.2, hx, rfl⟩))), h4⟩
theorem mapRes_lt {p mb : Nat} {A : All} {w : World} (h : (mapRes p mb A).R w) : ∀ x ∈ (mapRes p mb A).fp, x < w.heap.size := by
  obtain ⟨h1, h2, h3, _⟩ := h
  intro x hx
  simp [mapRes] at hx
  rcases hx with rfl | rfl | ⟨n, s, hx, rfl⟩
  · exact h1.lt
  · exact h2.lt
  · exact (h3 _ hx).lt

/-! ### New -/
theorem New_ok (w : World) : Calls Try.prog 11 #[] w fun e w' => ∃ y : Nat × Nat, e = .returned (pV y.1) ∧ True ∧ Frm [] w w' ∧ (mapRes y.1 y.2 []).R w' ∧ (∀ x ∈ (mapRes y.1 y.2 []).fp, w.heap.size ≤ x) ∧ ∀ x ∈ (mapRes y.1 y.2 []).fp, x < w'.heap.size := by
  have hI := Inv.nil (P := Try.prog) (N := 4) (S := []) (os := []) w
  refine calls_sm (cx 4 [] [] w) (vals := []) mixed Try.func11 rfl rfl rfl hI rfl (st rfl ?_); conv => arg 3; whnf
  (repeat (first | (refine n_must rfl ?_; (refine st rfl ?_; conv => arg 3; whnf)) | (refine n_chk (drawF_ok (by decide +kernel)) ?_; (refine st rfl ?_; conv => arg 3; whnf)) | (refine n_same rfl ?_; (refine st rfl ?_; conv => arg 3; whnf)) | (refine n_brT ?_ ?_; (focus (simp <;> fail)); (refine st rfl ?_; conv => arg 3; whnf)) | (refine n_brF ?_ ?_; (focus (simp <;> fail)); (refine st rfl ?_; conv => arg 3; whnf))))
  refine n_makeMap (fun b => ⟨[b], fun w => MapOf strE ctrV w b [], fun _ _ hk h => h.keep (hk b (by simp))⟩) 57 rfl rfl rfl (fun _ => rfl) (fun w b h => MapOf.empty _ _ h) fun mb hmb => ?_
  (refine st rfl ?_; conv => arg 3; whnf)
  (repeat (first | (refine n_must rfl ?_; (refine st rfl ?_; conv => arg 3; whnf)) | (refine n_chk (drawF_ok (by decide +kernel)) ?_; (refine st rfl ?_; conv => arg 3; whnf)) | (refine n_same rfl ?_; (refine st rfl ?_; conv => arg 3; whnf)) | (refine n_brT ?_ ?_; (focus (simp <;> fail)); (refine st rfl ?_; conv => arg 3; whnf)) | (refine n_brF ?_ ?_; (focus (simp <;> fail)); (refine st rfl ?_; conv => arg 3; whnf))))
  refine n_ret rfl fun ids' w' hp hI' => ?_
  obtain ⟨p, rfl⟩ := ext1 hp (by rw [hI'.len]; rfl)
  have hB := hI'.at0 1 rfl rfl rfl
  have hR : MapOf strE ctrV w' mb [] := hI'.res 0 rfl rfl
  have hn : p ≠ mb := by simpa using hI'.ne_res 1 0 (by decide) rfl rfl rfl rfl rfl
  have hP := hI'.new_at 1 rfl rfl rfl rfl (by simp)
  have hall : (mapRes p mb []).R w' := ⟨hB, hR, by simp, by simp [hn]⟩
  exact ⟨_, rfl, ⟨p, mb⟩, rfl, trivial, hI'.frm, hall, by simp [mapRes]; exact ⟨hP, hmb⟩, mapRes_lt hall⟩

/-! ### Peek -/
def peekV (A : All) (nm : ByteArray) : Value := match mget A nm with
  | some s => .tuple #[.int .i64 s.value, .int .i64 s.held, .int .i64 s.limit, .bool true]
  | none => .tuple #[.int .i64 0, .int .i64 0, .int .i64 0, .bool false]
theorem aggMap : aggB Try.prog 57 = some false := by kernel_rfl
theorem mapRes_ld {p mb : Nat} {A : All} {w : World} (h : (mapRes p mb A).R w) : (loadVar 57 ⟨p, 0, none⟩).run Try.prog w = .ok (.map (some mb)) w := load_cell aggMap (by rw [h.1.cell]; rfl)
theorem Peek_ok {p mb : Nat} {A : All} {w : World} (h : (mapRes p mb A).R w) (nm : ByteArray) (hs : nm.size ≤ maxLen) :
    Calls Try.prog 18 #[pV p, .string nm] w fun e w' => e = .returned (peekV A nm) ∧ Frm [] w w' := by
  have hI : Inv (cx 26 [] [] w) w [0] [⟨59, [.res (mapRes p mb A)], false⟩] := (Inv.nil w).consR (by simp) h (mapRes_lt h) (by simp)
  refine calls_sm (cx 26 [] [] w) (vals := [.raw (pV p), .str nm]) mixed Try.func18 rfl rfl rfl hI rfl (st rfl ?_); conv => arg 3; whnf
  (repeat (first | (refine n_must rfl ?_; (refine st rfl ?_; conv => arg 3; whnf)) | (refine n_chk (drawF_ok (by decide +kernel)) ?_; (refine st rfl ?_; conv => arg 3; whnf)) | (refine n_same rfl ?_; (refine st rfl ?_; conv => arg 3; whnf)) | (refine n_brT ?_ ?_; (focus (simp <;> fail)); (refine st rfl ?_; conv => arg 3; whnf)) | (refine n_brF ?_ ?_; (focus (simp <;> fail)); (refine st rfl ?_; conv => arg 3; whnf))))
  refine n_ldI (.raw (.map (some mb))) rfl rfl (fun _ w1 _ hI1 => mapRes_ld (hI1.res 0 rfl rfl)) ?_
  (refine st rfl ?_; conv => arg 3; whnf)
  (repeat (first | (refine n_must rfl ?_; (refine st rfl ?_; conv => arg 3; whnf)) | (refine n_chk (drawF_ok (by decide +kernel)) ?_; (refine st rfl ?_; conv => arg 3; whnf)) | (refine n_same rfl ?_; (refine st rfl ?_; conv => arg 3; whnf)) | (refine n_brT ?_ ?_; (focus (simp <;> fail)); (refine st rfl ?_; conv => arg 3; whnf)) | (refine n_brF ?_ ?_; (focus (simp <;> fail)); (refine st rfl ?_; conv => arg 3; whnf))))
  cases hm : mget A nm with
  | none =>
    refine n_lookup (E := strE) (ev' := ctrV) (b := mb) (kr := .str nm) (zr := .agg [.int .i64 0, .int .i64 0, .int .i64 0, .raw (.map none)]) (z := .agg #[.int .i64 0, .int .i64 0, .int .i64 0, .map none]) A nm (.tup [.agg [.int .i64 0, .int .i64 0, .int .i64 0, .raw (.map none)], .bool false]) strK rfl rfl rfl rfl rfl rfl hs rfl rfl (by rw [hm]; rfl) (fun _ w1 _ hI1 => by exact (hI1.res 0 rfl rfl).2.1) ?_
    (refine st rfl ?_; conv => arg 3; whnf)
    (repeat (first | (refine n_must rfl ?_; (refine st rfl ?_; conv => arg 3; whnf)) | (refine n_chk (drawF_ok (by decide +kernel)) ?_; (refine st rfl ?_; conv => arg 3; whnf)) | (refine n_same rfl ?_; (refine st rfl ?_; conv => arg 3; whnf)) | (refine n_brT ?_ ?_; (focus (simp <;> fail)); (refine st rfl ?_; conv => arg 3; whnf)) | (refine n_brF ?_ ?_; (focus (simp <;> fail)); (refine st rfl ?_; conv => arg 3; whnf))))
    have e : peekV A nm = .tuple #[.int .i64 0, .int .i64 0, .int .i64 0, .bool false] := by simp [peekV, hm]
    rw [e]
    exact n_ret0 rfl rfl fun ids' w' hp hI' => ⟨rfl, hI'.frm⟩
  | some s =>
    refine n_lookup (E := strE) (ev' := ctrV) (b := mb) (kr := .str nm) (zr := .agg [.int .i64 0, .int .i64 0, .int .i64 0, .raw (.map none)]) (z := .agg #[.int .i64 0, .int .i64 0, .int .i64 0, .map none]) A nm (.tup [.agg s.sv, .bool true]) strK rfl rfl rfl rfl rfl rfl hs rfl rfl (by rw [hm]; rfl) (fun _ w1 _ hI1 => by exact (hI1.res 0 rfl rfl).2.1) ?_
    (refine st rfl ?_; conv => arg 3; whnf)
    (repeat (first | (refine n_must rfl ?_; (refine st rfl ?_; conv => arg 3; whnf)) | (refine n_chk (drawF_ok (by decide +kernel)) ?_; (refine st rfl ?_; conv => arg 3; whnf)) | (refine n_same rfl ?_; (refine st rfl ?_; conv => arg 3; whnf)) | (refine n_brT ?_ ?_; (focus (simp <;> fail)); (refine st rfl ?_; conv => arg 3; whnf)) | (refine n_brF ?_ ?_; (focus (simp <;> fail)); (refine st rfl ?_; conv => arg 3; whnf))))
    have e : peekV A nm = .tuple #[.int .i64 s.value, .int .i64 s.held, .int .i64 s.limit, .bool true] := by simp [peekV, hm]
    rw [e]
    exact n_ret0 rfl rfl fun ids' w' hp hI' => ⟨rfl, hI'.frm⟩

/-! ### act -/
/-- What a closure sees. -/
def envRes (l : List (Nat × Array Value × TypeId)) : Res where
  fp := l.map Prod.fst
  R w := (∀ q ∈ l, Blk w q.1 q.2.1 q.2.2) ∧ (l.map Prod.fst).Nodup
  stable := fun w w' hk ⟨h1, h2⟩ => ⟨fun q hq => (hk q.1 (List.mem_map_of_mem hq)).trans (h1 q hq), h2⟩
theorem envRes_lt {l : List (Nat × Array Value × TypeId)} {w : World} (h : (envRes l).R w) : ∀ x ∈ (envRes l).fp, x < w.heap.size := by
  intro x hx
  obtain ⟨q, hq, rfl⟩ := List.mem_map.1 hx
  exact (h.1 _ hq).lt

abbrev bX (b : Nat) (n : Int) : Nat × Array Value × TypeId := (b, #[.int .i64 n], 3)
abbrev bV (b : Nat) : Nat × Array Value × TypeId := (b, #[mvV], 82)
abbrev bO (b : Nat) (k : Int) (nm : ByteArray) (x y : Int) : Nat × Array Value × TypeId := (b, opV k nm x y, 29)
/-- A new part. -/
abbrev Fresh (w w' : World) (ρ : Res) : Prop := Frm [] w w' ∧ ρ.R w' ∧ (∀ x ∈ ρ.fp, w.heap.size ≤ x) ∧ ∀ x ∈ ρ.fp, x < w'.heap.size

theorem act_inc {w : World} (k : Int) (nm : ByteArray) (a b h : Int) (hk : k = 2 ∨ k = 3) (ha : 0 ≤ a ∧ a ≤ 1099511627776) : Calls Try.prog 24 #[.agg (opV k nm a b), .int .i64 h] w fun e w' => ∃ y : Nat × Nat, e = .returned (.func (.func 34) #[] #[pV y.1, pV y.2]) ∧ True ∧ Fresh w w' (envRes [bX y.1 (if k = 3 then -a else a), bV y.2]) := by
  have hI := Inv.nil (P := Try.prog) (N := 38) (S := []) (os := []) w
  have e1 : IntKind.i64.wrap (0 - a) = -a := by rw [w64 (by omega) (by omega)]; omega
  rcases hk with rfl | rfl
  · refine calls_sm (cx 38 [] [] w) (vals := [.agg (opS 2 nm a b), .int .i64 h]) mixed Try.func24 rfl rfl rfl hI rfl (st rfl ?_); conv => arg 3; whnf
    (repeat (first | (refine n_must rfl ?_; (refine st rfl ?_; conv => arg 3; whnf)) | (refine n_chk (drawF_ok (by decide +kernel)) ?_; (refine st rfl ?_; conv => arg 3; whnf)) | (refine n_same rfl ?_; (refine st rfl ?_; conv => arg 3; whnf)) | (refine n_must ?_ ?_; (focus (first | (simp; done) | (simp; omega))); (refine st rfl ?_; conv => arg 3; whnf)) | (refine n_brT ?_ ?_; (focus (first | (simp; done) | (simp; omega))); (refine st rfl ?_; conv => arg 3; whnf)) | (refine n_brF ?_ ?_; (focus (first | (simp; done) | (simp; omega))); (refine st rfl ?_; conv => arg 3; whnf))))
    refine n_ret rfl fun ids' w' hp hI' => ?_
    obtain ⟨n0, n1, n2, n3, rfl⟩ := ext4 hp (by rw [hI'.len]; rfl)
    have hall : (envRes [bX n3 a, bV n2]).R w' := ⟨by simp; exact ⟨hI'.at0 3 rfl rfl rfl, hI'.at0 2 rfl rfl rfl⟩, by simp; exact hI'.ne_at 3 2 (by decide) rfl rfl rfl rfl rfl rfl⟩
    exact ⟨_, rfl, ⟨n3, n2⟩, rfl, trivial, hI'.frm, hall, by simp [envRes]; exact ⟨hI'.new_at 3 rfl rfl rfl rfl (by simp), hI'.new_at 2 rfl rfl rfl rfl (by simp)⟩, envRes_lt hall⟩
  · refine calls_sm (cx 38 [] [] w) (vals := [.agg (opS 3 nm a b), .int .i64 h]) mixed Try.func24 rfl rfl rfl hI rfl (st rfl ?_); conv => arg 3; whnf
    (repeat (first | (refine n_must rfl ?_; (refine st rfl ?_; conv => arg 3; whnf)) | (refine n_chk (drawF_ok (by decide +kernel)) ?_; (refine st rfl ?_; conv => arg 3; whnf)) | (refine n_same rfl ?_; (refine st rfl ?_; conv => arg 3; whnf)) | (refine n_must ?_ ?_; (focus (first | (simp; done) | (simp; omega))); (refine st rfl ?_; conv => arg 3; whnf)) | (refine n_brT ?_ ?_; (focus (first | (simp; done) | (simp; omega))); (refine st rfl ?_; conv => arg 3; whnf)) | (refine n_brF ?_ ?_; (focus (first | (simp; done) | (simp; omega))); (refine st rfl ?_; conv => arg 3; whnf))))
    rw [e1]
    refine n_ret rfl fun ids' w' hp hI' => ?_
    obtain ⟨n0, n1, n2, n3, rfl⟩ := ext4 hp (by rw [hI'.len]; rfl)
    have hall : (envRes [bX n3 (-a), bV n2]).R w' := ⟨by simp; exact ⟨hI'.at0 3 rfl rfl rfl, hI'.at0 2 rfl rfl rfl⟩, by simp; exact hI'.ne_at 3 2 (by decide) rfl rfl rfl rfl rfl rfl⟩
    exact ⟨_, rfl, ⟨n3, n2⟩, rfl, trivial, hI'.frm, hall, by simp [envRes]; exact ⟨hI'.new_at 3 rfl rfl rfl rfl (by simp), hI'.new_at 2 rfl rfl rfl rfl (by simp)⟩, envRes_lt hall⟩

theorem act_hold {w : World} (nm : ByteArray) (a b h : Int) : Calls Try.prog 24 #[.agg (opV 4 nm a b), .int .i64 h] w fun e w' => ∃ y : Nat × Nat × Nat, e = .returned (.func (.func 35) #[] #[pV y.1, pV y.2.1, pV y.2.2]) ∧ True ∧ Fresh w w' (envRes [bO y.1 4 nm a b, bX y.2.1 h, bV y.2.2]) := by
  have hI := Inv.nil (P := Try.prog) (N := 38) (S := []) (os := []) w
  refine calls_sm (cx 38 [] [] w) (vals := [.agg (opS 4 nm a b), .int .i64 h]) mixed Try.func24 rfl rfl rfl hI rfl (st rfl ?_); conv => arg 3; whnf
  (repeat (first | (refine n_must rfl ?_; (refine st rfl ?_; conv => arg 3; whnf)) | (refine n_chk (drawF_ok (by decide +kernel)) ?_; (refine st rfl ?_; conv => arg 3; whnf)) | (refine n_same rfl ?_; (refine st rfl ?_; conv => arg 3; whnf)) | (refine n_must ?_ ?_; (focus (first | (simp; done) | (simp; omega))); (refine st rfl ?_; conv => arg 3; whnf)) | (refine n_brT ?_ ?_; (focus (first | (simp; done) | (simp; omega))); (refine st rfl ?_; conv => arg 3; whnf)) | (refine n_brF ?_ ?_; (focus (first | (simp; done) | (simp; omega))); (refine st rfl ?_; conv => arg 3; whnf))))
  refine n_ret rfl fun ids' w' hp hI' => ?_
  obtain ⟨n0, n1, n2, rfl⟩ := ext3 hp (by rw [hI'.len]; rfl)
  have hall : (envRes [bO n0 4 nm a b, bX n1 h, bV n2]).R w' := ⟨by simp; exact ⟨hI'.at0 0 rfl rfl rfl, hI'.at0 1 rfl rfl rfl, hI'.at0 2 rfl rfl rfl⟩, by simp; exact ⟨⟨hI'.ne_at 0 1 (by decide) rfl rfl rfl rfl rfl rfl, hI'.ne_at 0 2 (by decide) rfl rfl rfl rfl rfl rfl⟩, hI'.ne_at 1 2 (by decide) rfl rfl rfl rfl rfl rfl⟩⟩
  exact ⟨_, rfl, ⟨n0, n1, n2⟩, rfl, trivial, hI'.frm, hall, by simp [envRes]; exact ⟨hI'.new_at 0 rfl rfl rfl rfl (by simp), hI'.new_at 1 rfl rfl rfl rfl (by simp), hI'.new_at 2 rfl rfl rfl rfl (by simp)⟩, envRes_lt hall⟩

theorem act_end {w : World} (k : Int) (nm : ByteArray) (a b h : Int) (hk : k = 5 ∨ k = 6 ∨ k = 12) : Calls Try.prog 24 #[.agg (opV k nm a b), .int .i64 h] w fun e w' => ∃ y : Nat × Nat, e = .returned (.func (.func 36) #[] #[pV y.1, pV y.2]) ∧ True ∧ Fresh w w' (envRes [bO y.1 k nm a b, bV y.2]) := by
  have hI := Inv.nil (P := Try.prog) (N := 38) (S := []) (os := []) w
  rcases hk with rfl | rfl | rfl
  · refine calls_sm (cx 38 [] [] w) (vals := [.agg (opS 5 nm a b), .int .i64 h]) mixed Try.func24 rfl rfl rfl hI rfl (st rfl ?_); conv => arg 3; whnf
    (repeat (first | (refine n_must rfl ?_; (refine st rfl ?_; conv => arg 3; whnf)) | (refine n_chk (drawF_ok (by decide +kernel)) ?_; (refine st rfl ?_; conv => arg 3; whnf)) | (refine n_same rfl ?_; (refine st rfl ?_; conv => arg 3; whnf)) | (refine n_must ?_ ?_; (focus (first | (simp; done) | (simp; omega))); (refine st rfl ?_; conv => arg 3; whnf)) | (refine n_brT ?_ ?_; (focus (first | (simp; done) | (simp; omega))); (refine st rfl ?_; conv => arg 3; whnf)) | (refine n_brF ?_ ?_; (focus (first | (simp; done) | (simp; omega))); (refine st rfl ?_; conv => arg 3; whnf))))
    refine n_ret rfl fun ids' w' hp hI' => ?_
    obtain ⟨n0, n1, n2, rfl⟩ := ext3 hp (by rw [hI'.len]; rfl)
    have hall : (envRes [bO n0 5 nm a b, bV n2]).R w' := ⟨by simp; exact ⟨hI'.at0 0 rfl rfl rfl, hI'.at0 2 rfl rfl rfl⟩, by simp; exact hI'.ne_at 0 2 (by decide) rfl rfl rfl rfl rfl rfl⟩
    exact ⟨_, rfl, ⟨n0, n2⟩, rfl, trivial, hI'.frm, hall, by simp [envRes]; exact ⟨hI'.new_at 0 rfl rfl rfl rfl (by simp), hI'.new_at 2 rfl rfl rfl rfl (by simp)⟩, envRes_lt hall⟩
  · refine calls_sm (cx 38 [] [] w) (vals := [.agg (opS 6 nm a b), .int .i64 h]) mixed Try.func24 rfl rfl rfl hI rfl (st rfl ?_); conv => arg 3; whnf
    (repeat (first | (refine n_must rfl ?_; (refine st rfl ?_; conv => arg 3; whnf)) | (refine n_chk (drawF_ok (by decide +kernel)) ?_; (refine st rfl ?_; conv => arg 3; whnf)) | (refine n_same rfl ?_; (refine st rfl ?_; conv => arg 3; whnf)) | (refine n_must ?_ ?_; (focus (first | (simp; done) | (simp; omega))); (refine st rfl ?_; conv => arg 3; whnf)) | (refine n_brT ?_ ?_; (focus (first | (simp; done) | (simp; omega))); (refine st rfl ?_; conv => arg 3; whnf)) | (refine n_brF ?_ ?_; (focus (first | (simp; done) | (simp; omega))); (refine st rfl ?_; conv => arg 3; whnf))))
    refine n_ret rfl fun ids' w' hp hI' => ?_
    obtain ⟨n0, n1, n2, rfl⟩ := ext3 hp (by rw [hI'.len]; rfl)
    have hall : (envRes [bO n0 6 nm a b, bV n2]).R w' := ⟨by simp; exact ⟨hI'.at0 0 rfl rfl rfl, hI'.at0 2 rfl rfl rfl⟩, by simp; exact hI'.ne_at 0 2 (by decide) rfl rfl rfl rfl rfl rfl⟩
    exact ⟨_, rfl, ⟨n0, n2⟩, rfl, trivial, hI'.frm, hall, by simp [envRes]; exact ⟨hI'.new_at 0 rfl rfl rfl rfl (by simp), hI'.new_at 2 rfl rfl rfl rfl (by simp)⟩, envRes_lt hall⟩
  · refine calls_sm (cx 38 [] [] w) (vals := [.agg (opS 12 nm a b), .int .i64 h]) mixed Try.func24 rfl rfl rfl hI rfl (st rfl ?_); conv => arg 3; whnf
    (repeat (first | (refine n_must rfl ?_; (refine st rfl ?_; conv => arg 3; whnf)) | (refine n_chk (drawF_ok (by decide +kernel)) ?_; (refine st rfl ?_; conv => arg 3; whnf)) | (refine n_same rfl ?_; (refine st rfl ?_; conv => arg 3; whnf)) | (refine n_must ?_ ?_; (focus (first | (simp; done) | (simp; omega))); (refine st rfl ?_; conv => arg 3; whnf)) | (refine n_brT ?_ ?_; (focus (first | (simp; done) | (simp; omega))); (refine st rfl ?_; conv => arg 3; whnf)) | (refine n_brF ?_ ?_; (focus (first | (simp; done) | (simp; omega))); (refine st rfl ?_; conv => arg 3; whnf))))
    refine n_ret rfl fun ids' w' hp hI' => ?_
    obtain ⟨n0, n1, n2, rfl⟩ := ext3 hp (by rw [hI'.len]; rfl)
    have hall : (envRes [bO n0 12 nm a b, bV n2]).R w' := ⟨by simp; exact ⟨hI'.at0 0 rfl rfl rfl, hI'.at0 2 rfl rfl rfl⟩, by simp; exact hI'.ne_at 0 2 (by decide) rfl rfl rfl rfl rfl rfl⟩
    exact ⟨_, rfl, ⟨n0, n2⟩, rfl, trivial, hI'.frm, hall, by simp [envRes]; exact ⟨hI'.new_at 0 rfl rfl rfl rfl (by simp), hI'.new_at 2 rfl rfl rfl rfl (by simp)⟩, envRes_lt hall⟩
theorem act_take {w : World} (nm : ByteArray) (a b h : Int) : Calls Try.prog 24 #[.agg (opV 8 nm a b), .int .i64 h] w fun e w' => ∃ y : Nat × Nat, e = .returned (.func (.func 37) #[] #[pV y.1, pV y.2]) ∧ True ∧ Fresh w w' (envRes [bO y.1 8 nm a b, bV y.2]) := by
  have hI := Inv.nil (P := Try.prog) (N := 38) (S := []) (os := []) w
  refine calls_sm (cx 38 [] [] w) (vals := [.agg (opS 8 nm a b), .int .i64 h]) mixed Try.func24 rfl rfl rfl hI rfl (st rfl ?_); conv => arg 3; whnf
  (repeat (first | (refine n_must rfl ?_; (refine st rfl ?_; conv => arg 3; whnf)) | (refine n_chk (drawF_ok (by decide +kernel)) ?_; (refine st rfl ?_; conv => arg 3; whnf)) | (refine n_same rfl ?_; (refine st rfl ?_; conv => arg 3; whnf)) | (refine n_must ?_ ?_; (focus (first | (simp; done) | (simp; omega))); (refine st rfl ?_; conv => arg 3; whnf)) | (refine n_brT ?_ ?_; (focus (first | (simp; done) | (simp; omega))); (refine st rfl ?_; conv => arg 3; whnf)) | (refine n_brF ?_ ?_; (focus (first | (simp; done) | (simp; omega))); (refine st rfl ?_; conv => arg 3; whnf))))
  refine n_ret rfl fun ids' w' hp hI' => ?_
  obtain ⟨n0, n1, n2, rfl⟩ := ext3 hp (by rw [hI'.len]; rfl)
  have hall : (envRes [bO n0 8 nm a b, bV n2]).R w' := ⟨by simp; exact ⟨hI'.at0 0 rfl rfl rfl, hI'.at0 2 rfl rfl rfl⟩, by simp; exact hI'.ne_at 0 2 (by decide) rfl rfl rfl rfl rfl rfl⟩
  exact ⟨_, rfl, ⟨n0, n2⟩, rfl, trivial, hI'.frm, hall, by simp [envRes]; exact ⟨hI'.new_at 0 rfl rfl rfl rfl (by simp), hI'.new_at 2 rfl rfl rfl rfl (by simp)⟩, envRes_lt hall⟩

theorem act_reset {w : World} (nm : ByteArray) (a b h : Int) : Calls Try.prog 24 #[.agg (opV 9 nm a b), .int .i64 h] w fun e w' => ∃ y : Nat, e = .returned (.func (.func 38) #[] #[pV y]) ∧ True ∧ Fresh w w' (envRes [bO y 9 nm a b]) := by
  have hI := Inv.nil (P := Try.prog) (N := 38) (S := []) (os := []) w
  refine calls_sm (cx 38 [] [] w) (vals := [.agg (opS 9 nm a b), .int .i64 h]) mixed Try.func24 rfl rfl rfl hI rfl (st rfl ?_); conv => arg 3; whnf
  (repeat (first | (refine n_must rfl ?_; (refine st rfl ?_; conv => arg 3; whnf)) | (refine n_chk (drawF_ok (by decide +kernel)) ?_; (refine st rfl ?_; conv => arg 3; whnf)) | (refine n_same rfl ?_; (refine st rfl ?_; conv => arg 3; whnf)) | (refine n_must ?_ ?_; (focus (first | (simp; done) | (simp; omega))); (refine st rfl ?_; conv => arg 3; whnf)) | (refine n_brT ?_ ?_; (focus (first | (simp; done) | (simp; omega))); (refine st rfl ?_; conv => arg 3; whnf)) | (refine n_brF ?_ ?_; (focus (first | (simp; done) | (simp; omega))); (refine st rfl ?_; conv => arg 3; whnf))))
  refine n_ret rfl fun ids' w' hp hI' => ?_
  obtain ⟨n0, n1, n2, rfl⟩ := ext3 hp (by rw [hI'.len]; rfl)
  have hall : (envRes [bO n0 9 nm a b]).R w' := ⟨by simp; exact hI'.at0 0 rfl rfl rfl, by simp⟩
  exact ⟨_, rfl, n0, rfl, trivial, hI'.frm, hall, by simp [envRes]; exact hI'.new_at 0 rfl rfl rfl rfl (by simp), envRes_lt hall⟩
theorem act_recap {w : World} (nm : ByteArray) (a b h : Int) : Calls Try.prog 24 #[.agg (opV 10 nm a b), .int .i64 h] w fun e w' => ∃ y : Nat, e = .returned (.func (.func 39) #[] #[pV y]) ∧ True ∧ Fresh w w' (envRes [bO y 10 nm a b]) := by
  have hI := Inv.nil (P := Try.prog) (N := 38) (S := []) (os := []) w
  refine calls_sm (cx 38 [] [] w) (vals := [.agg (opS 10 nm a b), .int .i64 h]) mixed Try.func24 rfl rfl rfl hI rfl (st rfl ?_); conv => arg 3; whnf
  (repeat (first | (refine n_must rfl ?_; (refine st rfl ?_; conv => arg 3; whnf)) | (refine n_chk (drawF_ok (by decide +kernel)) ?_; (refine st rfl ?_; conv => arg 3; whnf)) | (refine n_same rfl ?_; (refine st rfl ?_; conv => arg 3; whnf)) | (refine n_must ?_ ?_; (focus (first | (simp; done) | (simp; omega))); (refine st rfl ?_; conv => arg 3; whnf)) | (refine n_brT ?_ ?_; (focus (first | (simp; done) | (simp; omega))); (refine st rfl ?_; conv => arg 3; whnf)) | (refine n_brF ?_ ?_; (focus (first | (simp; done) | (simp; omega))); (refine st rfl ?_; conv => arg 3; whnf))))
  refine n_ret rfl fun ids' w' hp hI' => ?_
  obtain ⟨n0, n1, n2, rfl⟩ := ext3 hp (by rw [hI'.len]; rfl)
  have hall : (envRes [bO n0 10 nm a b]).R w' := ⟨by simp; exact hI'.at0 0 rfl rfl rfl, by simp⟩
  exact ⟨_, rfl, n0, rfl, trivial, hI'.frm, hall, by simp [envRes]; exact hI'.new_at 0 rfl rfl rfl rfl (by simp), envRes_lt hall⟩
theorem act_read {w : World} (nm : ByteArray) (a b h : Int) : Calls Try.prog 24 #[.agg (opV 7 nm a b), .int .i64 h] w fun e w' => e = .returned (.func (.func 40) #[] #[]) ∧ Frm [] w w' := by
  have hI := Inv.nil (P := Try.prog) (N := 38) (S := []) (os := []) w
  refine calls_sm (cx 38 [] [] w) (vals := [.agg (opS 7 nm a b), .int .i64 h]) mixed Try.func24 rfl rfl rfl hI rfl (st rfl ?_); conv => arg 3; whnf
  (repeat (first | (refine n_must rfl ?_; (refine st rfl ?_; conv => arg 3; whnf)) | (refine n_chk (drawF_ok (by decide +kernel)) ?_; (refine st rfl ?_; conv => arg 3; whnf)) | (refine n_same rfl ?_; (refine st rfl ?_; conv => arg 3; whnf)) | (refine n_must ?_ ?_; (focus (first | (simp; done) | (simp; omega))); (refine st rfl ?_; conv => arg 3; whnf)) | (refine n_brT ?_ ?_; (focus (first | (simp; done) | (simp; omega))); (refine st rfl ?_; conv => arg 3; whnf)) | (refine n_brF ?_ ?_; (focus (first | (simp; done) | (simp; omega))); (refine st rfl ?_; conv => arg 3; whnf))))
  exact n_ret0 rfl rfl fun ids' w' hp hI' => ⟨rfl, hI'.frm⟩
end Go.Proofs.Yteapjjkgbnnipaa
