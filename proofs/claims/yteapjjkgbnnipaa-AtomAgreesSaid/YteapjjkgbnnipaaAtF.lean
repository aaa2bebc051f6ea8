/- Chapter 16's law: what is spoken of, what is seen of it. -/
import Derived.Test.YteapjjkgbnnipaaAtE
import Derived.Test.YteapjjkgbnnipaaLeaf
set_option maxRecDepth 100000
set_option linter.unusedSimpArgs false
set_option linter.unusedVariables false
set_option maxHeartbeats 4000000
namespace Go.Proofs.Yteapjjkgbnnipaa
open Go.RowKit
open Go.Maps (Keyed)

/-! ### within, sign -/
def withinF (x lo hi : Int) : Int := lo + (if x < 0 then -(x + 1) else x).tmod (hi - lo + 1)
theorem within_le {x lo hi : Int} (h : lo ≤ hi) : lo ≤ withinF x lo hi ∧ withinF x lo hi ≤ hi := by
  unfold withinF
  generalize hy : (if x < 0 then -(x + 1) else x) = y
  have hy0 : 0 ≤ y := by rw [← hy]; split <;> omega
  have h1 : y.tmod (hi - lo + 1) = y % (hi - lo + 1) := Int.tmod_eq_emod_of_nonneg hy0
  have h2 := Int.emod_nonneg y (show hi - lo + 1 ≠ 0 by omega)
  have h3 := Int.emod_lt_of_pos y (show 0 < hi - lo + 1 by omega)
  rw [h1]; omega
theorem within_ok (x lo hi : Int) (hx : i64 x) (hlo : 0 ≤ lo) (hle : lo ≤ hi) (hhi : hi ≤ 4611686018427387904) (w : World) :
    Calls Try.prog 17 #[.int .i64 x, .int .i64 lo, .int .i64 hi] w fun e w' => e = .returned (.int .i64 (withinF x lo hi)) ∧ Frm [] w w' := by
  have hI := Inv.nil (P := Try.prog) (N := 20) (S := []) (os := []) w
  have e1 : IntKind.i64.wrap (IntKind.i64.wrap (hi - lo) + 1) = hi - lo + 1 := by rw [w64 (n := hi - lo) (by omega) (by omega), w64 (by omega) (by omega)]
  have hb := within_le (x := x) hle
  refine calls_sm (cx 20 [] [] w) (vals := [.int .i64 x, .int .i64 lo, .int .i64 hi]) mixed Try.func17 rfl rfl rfl hI rfl (st rfl ?_); conv => arg 3; whnf
  (repeat (first | (refine n_must rfl ?_; (refine st rfl ?_; conv => arg 3; whnf)) | (refine n_chk (drawF_ok (by decide +kernel)) ?_; (refine st rfl ?_; conv => arg 3; whnf)) | (refine n_same rfl ?_; (refine st rfl ?_; conv => arg 3; whnf))))
  refine n_br (fun h1 => ?_) (fun h1 => ?_) <;> simp at h1 <;> (refine st rfl ?_; conv => arg 3; whnf)
  · have e2 : IntKind.i64.wrap (0 - IntKind.i64.wrap (x + 1)) = -(x + 1) := by rw [w64 (n := x + 1) (by omega) (by omega), w64 (by omega) (by omega)]; omega
    refine n_must (by simp only [e1]; simp; omega) ?_
    (refine st rfl ?_; conv => arg 3; whnf)
    (repeat (first | (refine n_must rfl ?_; (refine st rfl ?_; conv => arg 3; whnf)) | (refine n_chk (drawF_ok (by decide +kernel)) ?_; (refine st rfl ?_; conv => arg 3; whnf)) | (refine n_same rfl ?_; (refine st rfl ?_; conv => arg 3; whnf))))
    refine n_ret0 rfl rfl fun ids' w' hp hI' => ⟨ret_int ?_, hI'.frm⟩
    have : withinF x lo hi = lo + (-(x + 1)).tmod (hi - lo + 1) := by unfold withinF; rw [if_pos h1]
    rw [e1, e2, ← this]; exact w64 (by omega) (by omega)
  · refine n_must (by simp only [e1]; simp; omega) ?_
    (refine st rfl ?_; conv => arg 3; whnf)
    (repeat (first | (refine n_must rfl ?_; (refine st rfl ?_; conv => arg 3; whnf)) | (refine n_chk (drawF_ok (by decide +kernel)) ?_; (refine st rfl ?_; conv => arg 3; whnf)) | (refine n_same rfl ?_; (refine st rfl ?_; conv => arg 3; whnf))))
    refine n_ret0 rfl rfl fun ids' w' hp hI' => ⟨ret_int ?_, hI'.frm⟩
    have : withinF x lo hi = lo + x.tmod (hi - lo + 1) := by unfold withinF; rw [if_neg (by omega)]
    rw [e1, ← this]; exact w64 (by omega) (by omega)

/-! ### The acts -/
structure Act5 where
  k : Int
  nm : ByteArray
  a : Int
  b : Int
  h : Int
abbrev Act5.cells (x : Act5) : List Value := [.int .i64 x.k, .string x.nm, .int .i64 x.a, .int .i64 x.b, .int .i64 x.h]
def Act5.good (x : Act5) : Prop := i64 x.k ∧ x.nm.size ≤ maxLen ∧ i64 x.a ∧ i64 x.b ∧ i64 x.h
structure ActsAt (w : World) (o : Option Addr) (n : Nat) (f : Nat → Act5) : Prop where
  raw : RawSl w w.heap.size 5 o n fun i => (f i).cells
  len : n ≤ 9223372036854775807
  good : ∀ i, i < n → (f i).good
theorem ActsAt.frm {w w' : World} {o : Option Addr} {n : Nat} {f : Nat → Act5} (h : ActsAt w o n f) (hf : Frm [] w w') : ActsAt w' o n f :=
  ⟨fun i hi => by
    obtain ⟨a, h1, h2, h3, h4⟩ := (h.raw.frm hf (Nat.le_refl _) (by simp)) i hi
    exact ⟨a, h1, Nat.lt_of_lt_of_le h2 hf.size, h3, h4⟩, h.len, h.good⟩
theorem ActsAt.at_ {w : World} {o : Option Addr} {n : Nat} {f : Nat → Act5} (h : ActsAt w o n f) {i : Nat} (hi : i < n) : ∃ a, o = some a ∧ ∀ w', Frm [] w w' → ∀ j u, (f i).cells[j]? = some u → w'.cell? (a.add (i * 5 + j)) = some u := by
  obtain ⟨a, h1, h2, h3, h4⟩ := h.raw i hi
  refine ⟨a, h1, fun w' hf j u hu => ?_⟩
  obtain ⟨a', g1, g2, g3, g4⟩ := (h.raw.frm hf (Nat.le_refl _) (by simp)) i hi
  rw [h1] at g1
  simp at g1
  subst g1
  exact g4 j u hu

/-! ### spoken -/
abbrev strs (l : List ByteArray) : List Value := l.map Value.string
abbrev namesOf (f : Nat → Act5) (n : Nat) : List ByteArray := (List.range n).map fun i => (f i).nm
theorem aggStr : aggB Try.prog 9 = some false := by kernel_rfl
theorem elemStr : sliceElem Try.prog 26 = some 9 := by kernel_rfl
theorem infoStr : (Try.prog.info? 9).map (fun i => (i.zero, i.size, i.bytes)) = some (some (.string { data := #[] }), 1, 16) := by kernel_rfl

theorem spoken_ok {w : World} {o : Option Addr} {n : Nat} {f : Nat → Act5} (h : ActsAt w o n f) (cap : Nat) :
    Calls Try.prog 12 #[.slice o n cap] w fun e w' => ∃ y : Option Addr × Nat, e = .returned (.slice y.1 (min n 300) y.2) ∧ True ∧ Fresh w w' (rowRes 9 1 y.1 (min n 300) y.2 (strs (namesOf f (min n 300)))) := by
  obtain ⟨it, hit, hparts⟩ := Option.map_eq_some_iff.1 infoStr
  simp only [Prod.mk.injEq] at hparts
  have hI : Inv (cx 25 [] [] w) w [0] [⟨9, [.res (rowRes 9 1 none 0 0 [])], true⟩] := (Inv.nil w).consR (by simp [rowRes]) (rowRes_nil _ _ _) (by simp [rowRes]) (by simp [rowRes])
  have hlen := h.len
  refine calls_sm (cx 25 [] [] w) (vals := [.raw (.slice o n cap)]) mixed Try.func12 rfl rfl rfl hI rfl (st rfl ?_); conv => arg 3; whnf
  (repeat (first | (refine n_must rfl ?_; (refine st rfl ?_; conv => arg 3; whnf)) | (refine n_chk (drawF_ok (by decide +kernel)) ?_; (refine st rfl ?_; conv => arg 3; whnf)) | (refine n_same rfl ?_; (refine st rfl ?_; conv => arg 3; whnf)) | (refine n_brT ?_ ?_; (focus (simp <;> fail)); (refine st rfl ?_; conv => arg 3; whnf)) | (refine n_brF ?_ ?_; (focus (simp <;> fail)); (refine st rfl ?_; conv => arg 3; whnf))))
  refine n_loop (σ := Nat × Option Addr × Nat) (fun s => [(0, .raw (.slice o n cap)), (3, .raw (.slice s.2.1 s.1 s.2.2)), (4, .int .i64 (s.1 : Nat))]) (fun s => [⟨9, [.res (rowRes 9 1 s.2.1 s.1 s.2.2 (strs (namesOf f s.1)))], true⟩]) (fun s => s.1 ≤ n ∧ s.1 ≤ 300) (fun s => 300 - s.1) (0, none, 0) mixed ⟨by simp, by simp⟩ (fun _ _ => rfl) rfl (by (repeat (first | exact trivial | refine ⟨⟨rfl, rfl⟩, ?_⟩))) (fun s _ => ⟨by (repeat (first | exact trivial | refine ⟨⟨_, rfl⟩, ?_⟩)), by (repeat (first | exact trivial | refine ⟨⟨_, rfl⟩, ?_⟩))⟩) fun s hJ => ?_
  obtain ⟨i, oa, ca⟩ := s
  obtain ⟨hi, hi3⟩ := hJ
  dsimp only at hi hi3 ⊢
  (refine st rfl ?_; conv => arg 3; whnf)
  by_cases hlt : i < n ∧ i < 300
  · obtain ⟨h1, h2⟩ := hlt
    have ei : IntKind.i64.wrap ((i : Int) + 1) = ((i + 1 : Nat) : Int) := by rw [w64 (by omega) (by omega)]; simp
    obtain ⟨ad, rfl, hat⟩ := h.at_ h1
    (repeat (first | (refine n_must rfl ?_; (refine st rfl ?_; conv => arg 3; whnf)) | (refine n_chk (drawF_ok (by decide +kernel)) ?_; (refine st rfl ?_; conv => arg 3; whnf)) | (refine n_same rfl ?_; (refine st rfl ?_; conv => arg 3; whnf)) | (refine n_must ?_ ?_; (focus (first | (simp; done) | (simp; omega))); (refine st rfl ?_; conv => arg 3; whnf)) | (refine n_brT ?_ ?_; (focus (first | (simp; done) | (simp; omega))); (refine st rfl ?_; conv => arg 3; whnf)) | (refine n_brF ?_ ?_; (focus (first | (simp; done) | (simp; omega))); (refine st rfl ?_; conv => arg 3; whnf))))
    refine n_ld (.str (f i).nm) rfl rfl (fun w' hf => load_cell aggStr (by have := hat w' hf 1 _ rfl; simpa [add_add] using this)) ?_
    (refine st rfl ?_; conv => arg 3; whnf)
    (repeat (first | (refine n_must rfl ?_; (refine st rfl ?_; conv => arg 3; whnf)) | (refine n_chk (drawF_ok (by decide +kernel)) ?_; (refine st rfl ?_; conv => arg 3; whnf)) | (refine n_same rfl ?_; (refine st rfl ?_; conv => arg 3; whnf)) | (refine n_must ?_ ?_; (focus (first | (simp; done) | (simp; omega))); (refine st rfl ?_; conv => arg 3; whnf)) | (refine n_brT ?_ ?_; (focus (first | (simp; done) | (simp; omega))); (refine st rfl ?_; conv => arg 3; whnf)) | (refine n_brF ?_ ?_; (focus (first | (simp; done) | (simp; omega))); (refine st rfl ?_; conv => arg 3; whnf))))
    refine n_build1 rfl rfl elemStr rfl rfl rfl rfl rfl rfl rfl rfl rfl ?_
    (refine st rfl ?_; conv => arg 3; whnf)
    (repeat (first | (refine n_must rfl ?_; (refine st rfl ?_; conv => arg 3; whnf)) | (refine n_chk (drawF_ok (by decide +kernel)) ?_; (refine st rfl ?_; conv => arg 3; whnf)) | (refine n_same rfl ?_; (refine st rfl ?_; conv => arg 3; whnf)) | (refine n_must ?_ ?_; (focus (first | (simp; done) | (simp; omega))); (refine st rfl ?_; conv => arg 3; whnf)) | (refine n_brT ?_ ?_; (focus (first | (simp; done) | (simp; omega))); (refine st rfl ?_; conv => arg 3; whnf)) | (refine n_brF ?_ ?_; (focus (first | (simp; done) | (simp; omega))); (refine st rfl ?_; conv => arg 3; whnf))))
    refine n_append (nv := [.string (f i).nm]) 0 rfl rfl elemStr hit hparts.1 hparts.2.1 hparts.2.2 rfl (by omega) rfl rfl rfl rfl rfl rfl (by omega) (by simp [Value.oneCell']) (by omega) (by omega) (show strs (namesOf f i) ++ _ = strs (namesOf f (i + 1)) by simp [strs, namesOf, List.range_succ]) fun g ca' => ?_
    (refine st rfl ?_; conv => arg 3; whnf)
    (repeat (first | (refine n_must rfl ?_; (refine st rfl ?_; conv => arg 3; whnf)) | (refine n_chk (drawF_ok (by decide +kernel)) ?_; (refine st rfl ?_; conv => arg 3; whnf)) | (refine n_same rfl ?_; (refine st rfl ?_; conv => arg 3; whnf)) | (refine n_must ?_ ?_; (focus (first | (simp; done) | (simp; omega))); (refine st rfl ?_; conv => arg 3; whnf)) | (refine n_brT ?_ ?_; (focus (first | (simp; done) | (simp; omega))); (refine st rfl ?_; conv => arg 3; whnf)) | (refine n_brF ?_ ?_; (focus (first | (simp; done) | (simp; omega))); (refine st rfl ?_; conv => arg 3; whnf))))
    exact n_again ⟨⟨i + 1, some ⟨g, 0, none⟩, ca'⟩, ⟨by dsimp only; omega, by dsimp only; omega⟩, by dsimp only; omega, (by (repeat (first | exact trivial | refine ⟨⟨rfl, rfl⟩, ?_⟩ | refine ⟨⟨rfl, congrArg (SV.int .i64) ei⟩, ?_⟩))), ⟨_, rfl⟩⟩
  · have hm : min n 300 = i := by omega
    (repeat' (first | (refine n_must rfl ?_; (refine st rfl ?_; conv => arg 3; whnf)) | (refine n_chk (drawF_ok (by decide +kernel)) ?_; (refine st rfl ?_; conv => arg 3; whnf)) | (refine n_same rfl ?_; (refine st rfl ?_; conv => arg 3; whnf)) | (refine n_must ?_ ?_; (focus (first | (simp; done) | (simp; omega))); (refine st rfl ?_; conv => arg 3; whnf)) | (refine n_brT ?_ ?_; (focus (first | (simp; done) | (simp; omega))); (refine st rfl ?_; conv => arg 3; whnf)) | (refine n_brF ?_ ?_; (focus (first | (simp; done) | (simp; omega))); (refine st rfl ?_; conv => arg 3; whnf)) | (refine n_br (fun hbr => ?_) (fun hbr => ?_) <;> simp at hbr <;> (refine st rfl ?_; conv => arg 3; whnf))))
    all_goals try (exfalso; omega)
    all_goals (refine n_exit rfl ?_; (refine st rfl ?_; conv => arg 3; whnf); (repeat (first | (refine n_must rfl ?_; (refine st rfl ?_; conv => arg 3; whnf)) | (refine n_chk (drawF_ok (by decide +kernel)) ?_; (refine st rfl ?_; conv => arg 3; whnf)) | (refine n_same rfl ?_; (refine st rfl ?_; conv => arg 3; whnf)) | (refine n_brT ?_ ?_; (focus (simp <;> fail)); (refine st rfl ?_; conv => arg 3; whnf)) | (refine n_brF ?_ ?_; (focus (simp <;> fail)); (refine st rfl ?_; conv => arg 3; whnf)))))
    all_goals (rw [hm]; exact n_ret0 rfl rfl fun ids' w' hp hI' => ⟨⟨oa, ca⟩, rfl, trivial, hI'.frm, hI'.res 0 rfl rfl, hI'.res_new 0 rfl rfl rfl (by simp), hI'.resLt 0 rfl rfl⟩)
end Go.Proofs.Yteapjjkgbnnipaa
