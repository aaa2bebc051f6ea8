/- Chapter 16's law: looks. -/
import Derived.Test.YteapjjkgbnnipaaAtF
import Derived.Laws.StructEq
set_option maxRecDepth 100000
set_option linter.unusedSimpArgs false
set_option linter.unusedVariables false
set_option maxHeartbeats 4000000
namespace Go.Proofs.Yteapjjkgbnnipaa
open Go.RowKit
open Go.Maps (Keyed)

structure Look where
  v : Int
  h : Int
  l : Int
  is : Bool
deriving DecidableEq
abbrev Look.cells (x : Look) : List Value := [.int .i64 x.v, .int .i64 x.h, .int .i64 x.l, .bool x.is]
abbrev Look.sv (x : Look) : List SV := [.int .i64 x.v, .int .i64 x.h, .int .i64 x.l, .bool x.is]
def lookOf (A : All) (nm : ByteArray) : Look := match mget A nm with
  | some s => ⟨s.value, s.held, s.limit, true⟩
  | none => ⟨0, 0, 0, false⟩
theorem peekV_eq (A : All) (nm : ByteArray) : peekV A nm = .tuple #[.int .i64 (lookOf A nm).v, .int .i64 (lookOf A nm).h, .int .i64 (lookOf A nm).l, .bool (lookOf A nm).is] := by
  unfold peekV lookOf
  cases mget A nm <;> rfl
abbrev looksC (L : List Look) : List Value := L.flatMap Look.cells
abbrev looksOf (A : All) (l : List ByteArray) : List Look := l.map (lookOf A)
theorem looksC_at : ∀ {L : List Look} {i : Nat} {x : Look} (hx : L[i]? = some x) (j : Nat) (hj : j < 4), (looksC L)[i * 4 + j]? = x.cells[j]?
  | [], i, x, h, _, _ => by simp at h
  | y :: L, 0, x, h, j, hj => by
    simp at h; subst h
    simp only [looksC, List.flatMap_cons, Nat.zero_mul, Nat.zero_add]
    rw [List.getElem?_append_left (by simpa using hj)]
  | y :: L, i + 1, x, h, j, hj => by
    simp at h
    simp only [looksC, List.flatMap_cons]
    rw [List.getElem?_append_right (by simp; omega)]
    have e : (i + 1) * 4 + j - y.cells.length = i * 4 + j := by simp; omega
    rw [e]
    exact looksC_at h j hj

theorem rowRes_some {e : TypeId} {size n cap : Nat} {o : Option Addr} {xs : List Value} {w : World} (h : (rowRes e size o n cap xs).R w) (hn : 0 < n) : ∃ g, o = some ⟨g, 0, none⟩ := by
  have h' : w.ownsRow 0 e size (.slice o n cap) n xs := h
  rcases h'.2 with ⟨_, h0⟩ | ⟨g, cap', cur, e1, _⟩
  · omega
  · injection e1 with e2; exact ⟨g, e2⟩
theorem rowRes_lt {e : TypeId} {size n cap : Nat} {o : Option Addr} {xs : List Value} {w : World} (h : (rowRes e size o n cap xs).R w) (ho : n = 0 → o = none) : ∀ x ∈ (rowRes e size o n cap xs).fp, x < w.heap.size := by
  intro x hx
  have h' : w.ownsRow 0 e size (.slice o n cap) n xs := h
  cases o with
  | none => simp [rowRes] at hx
  | some a =>
    simp [rowRes] at hx
    subst hx
    rcases Nat.eq_zero_or_pos n with h0 | h0
    · exact absurd (ho h0) (by simp)
    · obtain ⟨g, e⟩ := rowRes_some h h0
      simp at e; subst e
      exact (h'.lt g rfl).2

theorem elemLook : sliceElem Try.prog 32 = some 39 := by kernel_rfl
theorem infoLook : (Try.prog.info? 39).map (fun i => (i.zero, i.size, i.bytes)) = some (some (.agg #[.int .i64 0, .int .i64 0, .int .i64 0, .bool false]), 4, 32) := by kernel_rfl
theorem aggLook : aggB Try.prog 39 = some true := by kernel_rfl
theorem sizeLook : sizeB Try.prog 39 = some 4 := by kernel_rfl

theorem look_ld {g n ca i : Nat} {L : List Look} {x : Look} {w : World} (h : (rowRes 39 4 (some ⟨g, 0, none⟩) n ca (looksC L)).R w) (hx : L[i]? = some x) {ad : Addr} (had : ad = (⟨g, 0, none⟩ : Addr).add (i * 4)) : (loadVar 39 ad).run Try.prog w = .ok (.agg x.cells.toArray) w := by
  subst had
  refine load_row aggLook (by simpa using sizeLook) fun j u hu => ?_
  have hj : j < 4 := by have := (List.getElem?_eq_some_iff.1 hu).1; simpa using this
  rw [add_add]
  exact rowRes_cell h (by rw [looksC_at hx j hj]; exact hu)

theorem looked_ok {p mb : Nat} {A : All} {w : World} (hR : (mapRes p mb A).R w) {on : Option Addr} {n cn : Nat} {ns : List ByteArray} (hN : (rowRes 9 1 on n cn (strs ns)).R w) (hNlt : ∀ x ∈ (rowRes 9 1 on n cn (strs ns)).fp, x < w.heap.size) (hap : ∀ x ∈ (mapRes p mb A).fp, x ∉ (rowRes 9 1 on n cn (strs ns)).fp) (hl : ns.length = n) (hn : n ≤ 300) (hs : ∀ nm ∈ ns, nm.size ≤ maxLen) :
    Calls Try.prog 13 #[pV p, .slice on n cn] w fun e w' => ∃ y : Option Addr × Nat, e = .returned (.slice y.1 n y.2) ∧ True ∧ Fresh w w' (rowRes 39 4 y.1 n y.2 (looksC (looksOf A ns))) := by
  obtain ⟨it, hit, hparts⟩ := Option.map_eq_some_iff.1 infoLook
  simp only [Prod.mk.injEq] at hparts
  have hI : Inv (cx 37 [] [] w) w [0, 0, 0] [⟨59, [.res (mapRes p mb A)], false⟩, ⟨9, [.res (rowRes 9 1 on n cn (strs ns))], false⟩, ⟨39, [.res (rowRes 39 4 none 0 0 [])], true⟩] :=
    (((Inv.nil w).consR (by simp) hR (mapRes_lt hR) (by simp)).consR (by intro x hx hm; simp at hm; exact hap x hm hx) hN hNlt (by simp)).consR (by simp [rowRes]) (rowRes_nil _ _ _) (by simp [rowRes]) (by simp [rowRes])
  refine calls_sm (cx 37 [] [] w) (vals := [.raw (pV p), .raw (.slice on n cn)]) mixed Try.func13 rfl rfl rfl hI rfl (st rfl ?_); conv => arg 3; whnf
  (repeat (first | (refine n_must rfl ?_; (refine st rfl ?_; conv => arg 3; whnf)) | (refine n_chk (drawF_ok (by decide +kernel)) ?_; (refine st rfl ?_; conv => arg 3; whnf)) | (refine n_same rfl ?_; (refine st rfl ?_; conv => arg 3; whnf)) | (refine n_brT ?_ ?_; (focus (simp <;> fail)); (refine st rfl ?_; conv => arg 3; whnf)) | (refine n_brF ?_ ?_; (focus (simp <;> fail)); (refine st rfl ?_; conv => arg 3; whnf))))
  refine n_loop (σ := Nat × Option Addr × Nat) (fun s => [(0, .raw (pV p)), (1, .raw (.slice on n cn)), (5, .raw (.slice s.2.1 s.1 s.2.2)), (6, .int .i64 (s.1 : Nat))]) (fun s => [⟨59, [.res (mapRes p mb A)], false⟩, ⟨9, [.res (rowRes 9 1 on n cn (strs ns))], false⟩, ⟨39, [.res (rowRes 39 4 s.2.1 s.1 s.2.2 (looksC (looksOf A (ns.take s.1))))], true⟩]) (fun s => s.1 ≤ n) (fun s => n - s.1) (0, none, 0) mixed (by simp) (fun _ _ => rfl) (by simp) (by (repeat (first | exact trivial | refine ⟨⟨rfl, rfl⟩, ?_⟩))) (fun s _ => ⟨by (repeat (first | exact trivial | refine ⟨⟨_, rfl⟩, ?_⟩)), by (repeat (first | exact trivial | refine ⟨⟨_, rfl⟩, ?_⟩))⟩) fun s hJ => ?_
  obtain ⟨i, oa, ca⟩ := s
  dsimp only at hJ ⊢
  (refine st rfl ?_; conv => arg 3; whnf)
  by_cases hlt : i < n
  · have ei : IntKind.i64.wrap ((i : Int) + 1) = ((i + 1 : Nat) : Int) := by rw [w64 (by omega) (by omega)]; simp
    obtain ⟨g, rfl⟩ := rowRes_some hN (by omega)
    have hget : ns[i]? = some ns[i] := List.getElem?_eq_getElem _
    generalize hnm : ns[i] = nm at hget
    have hnms : nm.size ≤ maxLen := hs nm (hnm ▸ List.getElem_mem _)
    (repeat (first | (refine n_must rfl ?_; (refine st rfl ?_; conv => arg 3; whnf)) | (refine n_chk (drawF_ok (by decide +kernel)) ?_; (refine st rfl ?_; conv => arg 3; whnf)) | (refine n_same rfl ?_; (refine st rfl ?_; conv => arg 3; whnf)) | (refine n_must ?_ ?_; (focus (first | (simp; done) | (simp; omega))); (refine st rfl ?_; conv => arg 3; whnf)) | (refine n_brT ?_ ?_; (focus (first | (simp; done) | (simp; omega))); (refine st rfl ?_; conv => arg 3; whnf)) | (refine n_brF ?_ ?_; (focus (first | (simp; done) | (simp; omega))); (refine st rfl ?_; conv => arg 3; whnf))))
    refine n_ldI (.str nm) rfl rfl (fun _ w1 _ hI1 => load_cell aggStr (by have := rowRes_cell (hI1.res 1 rfl rfl) (j := i) (u := .string nm) (by simp [strs, hget]); simpa using this)) ?_
    (refine st rfl ?_; conv => arg 3; whnf)
    (repeat (first | (refine n_must rfl ?_; (refine st rfl ?_; conv => arg 3; whnf)) | (refine n_chk (drawF_ok (by decide +kernel)) ?_; (refine st rfl ?_; conv => arg 3; whnf)) | (refine n_same rfl ?_; (refine st rfl ?_; conv => arg 3; whnf)) | (refine n_must ?_ ?_; (focus (first | (simp; done) | (simp; omega))); (refine st rfl ?_; conv => arg 3; whnf)) | (refine n_brT ?_ ?_; (focus (first | (simp; done) | (simp; omega))); (refine st rfl ?_; conv => arg 3; whnf)) | (refine n_brF ?_ ?_; (focus (first | (simp; done) | (simp; omega))); (refine st rfl ?_; conv => arg 3; whnf))))
    refine n_sameP (.tup [.int .i64 (lookOf A nm).v, .int .i64 (lookOf A nm).h, .int .i64 (lookOf A nm).l, .bool (lookOf A nm).is]) rfl rfl rfl (fun _ w1 hp1 hI1 => peekV_eq A nm ▸ Peek_ok (hI1.res 0 rfl rfl) nm hnms) ?_; (refine st rfl ?_; conv => arg 3; whnf)
    (repeat (first | (refine n_must rfl ?_; (refine st rfl ?_; conv => arg 3; whnf)) | (refine n_chk (drawF_ok (by decide +kernel)) ?_; (refine st rfl ?_; conv => arg 3; whnf)) | (refine n_same rfl ?_; (refine st rfl ?_; conv => arg 3; whnf)) | (refine n_must ?_ ?_; (focus (first | (simp; done) | (simp; omega))); (refine st rfl ?_; conv => arg 3; whnf)) | (refine n_brT ?_ ?_; (focus (first | (simp; done) | (simp; omega))); (refine st rfl ?_; conv => arg 3; whnf)) | (refine n_brF ?_ ?_; (focus (first | (simp; done) | (simp; omega))); (refine st rfl ?_; conv => arg 3; whnf))))
    refine n_build1 rfl rfl elemLook rfl rfl rfl rfl rfl rfl rfl rfl rfl ?_
    (refine st rfl ?_; conv => arg 3; whnf)
    (repeat (first | (refine n_must rfl ?_; (refine st rfl ?_; conv => arg 3; whnf)) | (refine n_chk (drawF_ok (by decide +kernel)) ?_; (refine st rfl ?_; conv => arg 3; whnf)) | (refine n_same rfl ?_; (refine st rfl ?_; conv => arg 3; whnf)) | (refine n_must ?_ ?_; (focus (first | (simp; done) | (simp; omega))); (refine st rfl ?_; conv => arg 3; whnf)) | (refine n_brT ?_ ?_; (focus (first | (simp; done) | (simp; omega))); (refine st rfl ?_; conv => arg 3; whnf)) | (refine n_brF ?_ ?_; (focus (first | (simp; done) | (simp; omega))); (refine st rfl ?_; conv => arg 3; whnf))))
    refine n_append (nv := (lookOf A nm).cells) 2 rfl rfl elemLook hit hparts.1 hparts.2.1 hparts.2.2 rfl (by omega) rfl rfl rfl rfl rfl rfl (by omega) (by simp [Value.oneCell']) (by omega) (by omega) (show looksC (looksOf A (ns.take i)) ++ _ = looksC (looksOf A (ns.take (i + 1))) by simp [looksC, looksOf, List.take_add_one, hget]) fun g ca' => ?_
    (refine st rfl ?_; conv => arg 3; whnf)
    (repeat (first | (refine n_must rfl ?_; (refine st rfl ?_; conv => arg 3; whnf)) | (refine n_chk (drawF_ok (by decide +kernel)) ?_; (refine st rfl ?_; conv => arg 3; whnf)) | (refine n_same rfl ?_; (refine st rfl ?_; conv => arg 3; whnf)) | (refine n_must ?_ ?_; (focus (first | (simp; done) | (simp; omega))); (refine st rfl ?_; conv => arg 3; whnf)) | (refine n_brT ?_ ?_; (focus (first | (simp; done) | (simp; omega))); (refine st rfl ?_; conv => arg 3; whnf)) | (refine n_brF ?_ ?_; (focus (first | (simp; done) | (simp; omega))); (refine st rfl ?_; conv => arg 3; whnf))))
    exact n_again ⟨⟨i + 1, some ⟨g, 0, none⟩, ca'⟩, by dsimp only; omega, by dsimp only; omega, (by (repeat (first | exact trivial | refine ⟨⟨rfl, rfl⟩, ?_⟩ | refine ⟨⟨rfl, congrArg (SV.int .i64) ei⟩, ?_⟩))), ⟨_, rfl⟩⟩
  · obtain rfl : i = n := by omega
    (repeat (first | (refine n_must rfl ?_; (refine st rfl ?_; conv => arg 3; whnf)) | (refine n_chk (drawF_ok (by decide +kernel)) ?_; (refine st rfl ?_; conv => arg 3; whnf)) | (refine n_same rfl ?_; (refine st rfl ?_; conv => arg 3; whnf)) | (refine n_must ?_ ?_; (focus (first | (simp; done) | (simp; omega))); (refine st rfl ?_; conv => arg 3; whnf)) | (refine n_brT ?_ ?_; (focus (first | (simp; done) | (simp; omega))); (refine st rfl ?_; conv => arg 3; whnf)) | (refine n_brF ?_ ?_; (focus (first | (simp; done) | (simp; omega))); (refine st rfl ?_; conv => arg 3; whnf))))
    refine n_exit rfl ?_
    (refine st rfl ?_; conv => arg 3; whnf)
    (repeat (first | (refine n_must rfl ?_; (refine st rfl ?_; conv => arg 3; whnf)) | (refine n_chk (drawF_ok (by decide +kernel)) ?_; (refine st rfl ?_; conv => arg 3; whnf)) | (refine n_same rfl ?_; (refine st rfl ?_; conv => arg 3; whnf)) | (refine n_brT ?_ ?_; (focus (simp <;> fail)); (refine st rfl ?_; conv => arg 3; whnf)) | (refine n_brF ?_ ?_; (focus (simp <;> fail)); (refine st rfl ?_; conv => arg 3; whnf))))
    rw [← hl, List.take_length]
    exact n_ret0 rfl rfl fun ids' w' hp hI' => ⟨⟨oa, ca⟩, rfl, trivial, hI'.frm, hI'.res 2 rfl rfl, hI'.res_new 2 rfl rfl rfl (by simp), hI'.resLt 2 rfl rfl⟩
end Go.Proofs.Yteapjjkgbnnipaa
