/- Package gossip: New, Need, Lacks, most. -/
import Derived.Test.YtglafgpjgkphkaaGreatDoorBnGk
import Derived.StringKeys
set_option maxRecDepth 100000
set_option linter.unusedSimpArgs false
set_option linter.unusedVariables false
set_option maxHeartbeats 4000000
namespace Go.Proofs.YtglafgpjgkphkaaGreatDoor
open Go.RowKit
open Go.Maps (Keyed)

def nmE : KeyEnc Tryz.prog 9 ByteArray := strEnc Tryz.prog 9 (by kernel_rfl)
theorem nmK : Keyed Tryz.prog 9 := Keyed.of_law (Go.WideMaps.string_law (by kernel_rfl))
structure Gs where
  me : Int
  n : Int
  m : List (ByteArray × (Int × Int))
abbrev rtV (x : Int × Int) : Value := .agg #[.int .i64 x.1, .int .i64 x.2]
abbrev rtS (x : Int × Int) : SV := .agg [.int .i64 x.1, .int .i64 x.2]
abbrev Gs.cells (s : Gs) (mb : Nat) : List Value := [.int .i64 s.me, .int .i64 s.n, .map (some mb)]
def gossRes (p mb : Nat) (s : Gs) : Res where
  fp := [p, mb]
  R w := Blk w p (s.cells mb).toArray 71 ∧ MapOf nmE rtV w mb s.m ∧ p ≠ mb
  stable := fun w w' hk ⟨h1, h2, h3⟩ => ⟨(hk p (by simp)).trans h1, h2.keep (hk mb (by simp)), h3⟩
theorem gossRes_lt {p mb : Nat} {s : Gs} {w : World} (h : (gossRes p mb s).R w) : ∀ x ∈ (gossRes p mb s).fp, x < w.heap.size := by
  obtain ⟨h1, h2, _⟩ := h
  intro x hx
  simp [gossRes] at hx
  rcases hx with rfl | rfl
  · exact h1.lt
  · exact h2.lt
theorem goss_map {p mb : Nat} {s : Gs} {w w' : World} {m' : List (ByteArray × (Int × Int))} (h : (gossRes p mb s).R w) (hf : Frm [mb] w w') (hb : MapOf nmE rtV w' mb m') : (gossRes p mb { s with m := m' }).R w' := by
  obtain ⟨h1, h2, h3⟩ := h
  exact ⟨(hf.block p h1.lt (by simpa using h3)).trans h1, hb, h3⟩
theorem lkR (m : Option (Int × Int)) : (m.map rtV).getD (.agg #[.int .i64 0, .int .i64 0]) = rtV (m.getD (0, 0)) := by cases m <;> rfl
theorem aggGMap : aggB Tryz.prog 69 = some false := by kernel_rfl

/-! ### New -/
theorem gNew_bad {me n : Int} (h : newErr me n ≠ 0) (w : World) : Calls Tryz.prog 16 #[.int .i64 me, .int .i64 n] w fun e w' => e = .returned (.tuple #[.pointer none, .int .i64 (newErr me n)]) ∧ Frm [] w w' := by
  have hI := Inv.nil (P := Tryz.prog) (N := 49) (S := []) (os := []) w
  refine calls_sm (cx 49 [] [] w) (vals := [.int .i64 me, .int .i64 n]) mixed Tryz.func16 rfl rfl rfl hI rfl (st rfl ?_); conv => arg 3; whnf
  refine gg ?_
  refine n_makeMap (fun b => ⟨[b], fun w => MapOf nmE rtV w b [], fun _ _ hk h => h.keep (hk b (by simp))⟩) 69 rfl rfl rfl (fun _ => rfl) (fun w b h => MapOf.empty _ _ h) fun mb hmb => ?_
  (refine gs ?_)
  unfold newErr at h ⊢
  by_cases h1 : n < 2
  · (repeat ((first | refine n_must rfl ?_ | refine n_chk (drawF_ok (by decide +kernel)) ?_ | refine n_same rfl ?_ | ((first | refine n_must ?_ ?_ | refine n_brT ?_ ?_); (focus (first | (simp [h1]; done) | (simp [h1]; omega) | (simp only [h1]; simp; done)))) | (refine n_brF ?_ ?_; (focus (first | (simp [h1]; done) | (simp [h1]; omega) | (simp only [h1]; simp; done)))) | refine n_must (by (with_reducible refine and_shape ?_) <;> kernel_rfl) ?_); (refine gs ?_)))
    rw [if_pos (.inl h1)]
    exact n_ret0 rfl rfl fun ids' w' hp hI' => ⟨rfl, hI'.frm⟩
  by_cases h2 : 16 < n
  · (repeat ((first | refine n_must rfl ?_ | refine n_chk (drawF_ok (by decide +kernel)) ?_ | refine n_same rfl ?_ | ((first | refine n_must ?_ ?_ | refine n_brT ?_ ?_); (focus (first | (simp [h1, h2]; done) | (simp [h1, h2]; omega) | (simp only [h1, h2]; simp; done)))) | (refine n_brF ?_ ?_; (focus (first | (simp [h1, h2]; done) | (simp [h1, h2]; omega) | (simp only [h1, h2]; simp; done)))) | refine n_must (by (with_reducible refine and_shape ?_) <;> kernel_rfl) ?_); (refine gs ?_)))
    rw [if_pos (.inr h2)]
    exact n_ret0 rfl rfl fun ids' w' hp hI' => ⟨rfl, hI'.frm⟩
  rw [if_neg (by omega)] at h ⊢
  by_cases h3 : me < 0
  · (repeat ((first | refine n_must rfl ?_ | refine n_chk (drawF_ok (by decide +kernel)) ?_ | refine n_same rfl ?_ | ((first | refine n_must ?_ ?_ | refine n_brT ?_ ?_); (focus (first | (simp [h1, h2, h3]; done) | (simp [h1, h2, h3]; omega) | (simp only [h1, h2, h3]; simp; done)))) | (refine n_brF ?_ ?_; (focus (first | (simp [h1, h2, h3]; done) | (simp [h1, h2, h3]; omega) | (simp only [h1, h2, h3]; simp; done)))) | refine n_must (by (with_reducible refine and_shape ?_) <;> kernel_rfl) ?_); (refine gs ?_)))
    rw [if_pos (.inl h3)]
    exact n_ret0 rfl rfl fun ids' w' hp hI' => ⟨rfl, hI'.frm⟩
  by_cases h4 : n ≤ me
  · (repeat ((first | refine n_must rfl ?_ | refine n_chk (drawF_ok (by decide +kernel)) ?_ | refine n_same rfl ?_ | ((first | refine n_must ?_ ?_ | refine n_brT ?_ ?_); (focus (first | (simp [h1, h2, h3, h4]; done) | (simp [h1, h2, h3, h4]; omega) | (simp only [h1, h2, h3, h4]; simp; done)))) | (refine n_brF ?_ ?_; (focus (first | (simp [h1, h2, h3, h4]; done) | (simp [h1, h2, h3, h4]; omega) | (simp only [h1, h2, h3, h4]; simp; done)))) | refine n_must (by (with_reducible refine and_shape ?_) <;> kernel_rfl) ?_); (refine gs ?_)))
    rw [if_pos (.inr h4)]
    exact n_ret0 rfl rfl fun ids' w' hp hI' => ⟨rfl, hI'.frm⟩
  rw [if_neg (by omega)] at h
  exact absurd rfl h
theorem gNew_good {me n : Int} (h : newErr me n = 0) (w : World) : Calls Tryz.prog 16 #[.int .i64 me, .int .i64 n] w fun e w' => ∃ y : Nat × Nat, e = .returned (.tuple #[pV y.1, .int .i64 0]) ∧ True ∧ FreshR w w' (gossRes y.1 y.2 ⟨me, n, []⟩) := by
  have hI := Inv.nil (P := Tryz.prog) (N := 49) (S := []) (os := []) w
  obtain ⟨h1, h2, h3, h4⟩ := newErr_0 h
  have q1 : ¬ n < 2 := by omega
  have q2 : ¬ 16 < n := by omega
  have q3 : ¬ me < 0 := by omega
  have q4 : ¬ n ≤ me := by omega
  refine calls_sm (cx 49 [] [] w) (vals := [.int .i64 me, .int .i64 n]) mixed Tryz.func16 rfl rfl rfl hI rfl (st rfl ?_); conv => arg 3; whnf
  refine gg ?_
  refine n_makeMap (fun b => ⟨[b], fun w => MapOf nmE rtV w b [], fun _ _ hk h => h.keep (hk b (by simp))⟩) 69 rfl rfl rfl (fun _ => rfl) (fun w b h => MapOf.empty _ _ h) fun mb hmb => ?_
  (refine gs ?_)
  (repeat ((first | refine n_must rfl ?_ | refine n_chk (drawF_ok (by decide +kernel)) ?_ | refine n_same rfl ?_ | ((first | refine n_must ?_ ?_ | refine n_brT ?_ ?_); (focus (first | (simp [q1, q2, q3, q4]; done) | (simp [q1, q2, q3, q4]; omega) | (simp only [q1, q2, q3, q4]; simp; done)))) | (refine n_brF ?_ ?_; (focus (first | (simp [q1, q2, q3, q4]; done) | (simp [q1, q2, q3, q4]; omega) | (simp only [q1, q2, q3, q4]; simp; done)))) | refine n_must (by (with_reducible refine and_shape ?_) <;> kernel_rfl) ?_); (refine gs ?_)))
  refine n_ret rfl fun ids' w' hp hI' => ?_
  obtain ⟨p, rfl⟩ := ext1 hp (by rw [hI'.len]; rfl)
  have hB := hI'.at0 1 rfl rfl rfl
  have hM : MapOf nmE rtV w' mb [] := hI'.res 0 rfl rfl
  have n1 : p ≠ mb := by simpa using hI'.ne_res 1 0 (by decide) rfl rfl rfl rfl rfl
  have hP := hI'.new_at 1 rfl rfl rfl rfl (by simp)
  have hall : (gossRes p mb ⟨me, n, []⟩).R w' := ⟨hB, hM, n1⟩
  exact ⟨_, rfl, ⟨p, mb⟩, rfl, trivial, hI'.frm, hall, by simp [gossRes]; exact ⟨hP, hmb⟩, gossRes_lt hall⟩

/-! ### Need, Lacks -/
def Gs.lack (s : Gs) (nm : ByteArray) : Int × Int := (mget s.m nm).getD (0, 0)
def Gs.need (s : Gs) (nm : ByteArray) (d u : Int) : Gs :=
  if min d u < 0 ∨ 1099511627776 < max d u then s else { s with m := mput s.m nm (max (s.lack nm).1 d, max (s.lack nm).2 u) }
theorem Lacks_ok {p mb : Nat} {s : Gs} {w : World} (hR : (gossRes p mb s).R w) (nm : ByteArray) (hnm : nm.size ≤ maxLen) :
    Calls Tryz.prog 20 #[pV p, .string nm] w fun e w' => e = .returned (rtV (s.lack nm)) ∧ Frm [] w w' := by
  have hI : Inv (cx 11 [] [] w) w [0] [⟨71, [.res (gossRes p mb s)], false⟩] := (Inv.nil w).consR (by simp) hR (gossRes_lt hR) (by simp)
  refine calls_sm (cx 11 [] [] w) (vals := [.raw (pV p), .str nm]) mixed Tryz.func20 rfl rfl rfl hI rfl (st rfl ?_); conv => arg 3; whnf
  refine gg ?_
  refine n_ldI (.raw (.map (some mb))) rfl rfl (fun _ w1 _ hI1 => load_cell aggGMap (blk_at (hI1.res 0 rfl rfl).1 (j := 2) rfl rfl)) ?_
  (refine gs ?_)
  refine gg ?_
  refine n_lookup (E := nmE) (ev' := rtV) (b := mb) (kr := .str nm) (zr := rtS (0, 0)) (z := rtV (0, 0)) s.m nm (rtS (s.lack nm)) nmK rfl rfl rfl rfl rfl rfl hnm rfl rfl (by rw [lkR]; rfl) (fun _ w1 _ hI1 => by exact (hI1.res 0 rfl rfl).2.1) ?_
  (refine gs ?_)
  refine gg ?_
  exact n_ret0 rfl rfl fun ids' w' hp hI' => ⟨rfl, hI'.frm⟩
theorem Need_ok {p mb : Nat} {s : Gs} {w : World} (hR : (gossRes p mb s).R w) (nm : ByteArray) (hnm : nm.size ≤ maxLen) (d u : Int) :
    Calls Tryz.prog 8 #[pV p, .string nm, rtV (d, u)] w fun e w' => e = .returned (.tuple #[]) ∧ Post (gossRes p mb s) (gossRes p mb (s.need nm d u)) w w' := by
  have hI : Inv (cx 43 [] (gossRes p mb s).fp w) w [0] [⟨71, [.res (gossRes p mb s)], true⟩] := (Inv.nil w).consR (by simp) hR (gossRes_lt hR) (by simp)
  refine calls_sm (cx 43 [] (gossRes p mb s).fp w) (vals := [.raw (pV p), .str nm, rtS (d, u)]) mixed Tryz.func8 rfl rfl rfl hI rfl (st rfl ?_); conv => arg 3; whnf
  refine gg ?_
  by_cases h1 : min d u < 0
  · have e : s.need nm d u = s := by rw [Gs.need, if_pos (.inl h1)]
    (repeat ((first | refine n_must rfl ?_ | refine n_chk (drawF_ok (by decide +kernel)) ?_ | refine n_same rfl ?_ | ((first | refine n_must ?_ ?_ | refine n_brT ?_ ?_); (focus (first | (simp [h1]; done) | (simp [h1]; omega) | (simp only [h1]; simp; done)))) | (refine n_brF ?_ ?_; (focus (first | (simp [h1]; done) | (simp [h1]; omega) | (simp only [h1]; simp; done)))) | refine n_must (by (with_reducible refine and_shape ?_) <;> kernel_rfl) ?_); (refine gs ?_)))
    rw [e]
    exact n_ret0 rfl rfl fun ids' w' hp hI' => ⟨rfl, post_res hI' rfl 0 rfl rfl rfl⟩
  by_cases h2 : 1099511627776 < max d u
  · have e : s.need nm d u = s := by rw [Gs.need, if_pos (.inr h2)]
    (repeat ((first | refine n_must rfl ?_ | refine n_chk (drawF_ok (by decide +kernel)) ?_ | refine n_same rfl ?_ | ((first | refine n_must ?_ ?_ | refine n_brT ?_ ?_); (focus (first | (simp [h1, h2]; done) | (simp [h1, h2]; omega) | (simp only [h1, h2]; simp; done)))) | (refine n_brF ?_ ?_; (focus (first | (simp [h1, h2]; done) | (simp [h1, h2]; omega) | (simp only [h1, h2]; simp; done)))) | refine n_must (by (with_reducible refine and_shape ?_) <;> kernel_rfl) ?_); (refine gs ?_)))
    rw [e]
    exact n_ret0 rfl rfl fun ids' w' hp hI' => ⟨rfl, post_res hI' rfl 0 rfl rfl rfl⟩
  have e : s.need nm d u = { s with m := mput s.m nm (max (s.lack nm).1 d, max (s.lack nm).2 u) } := by rw [Gs.need, if_neg (by omega)]
  (repeat ((first | refine n_must rfl ?_ | refine n_chk (drawF_ok (by decide +kernel)) ?_ | refine n_same rfl ?_ | ((first | refine n_must ?_ ?_ | refine n_brT ?_ ?_); (focus (first | (simp [h1, h2]; done) | (simp [h1, h2]; omega) | (simp only [h1, h2]; simp; done)))) | (refine n_brF ?_ ?_; (focus (first | (simp [h1, h2]; done) | (simp [h1, h2]; omega) | (simp only [h1, h2]; simp; done)))) | refine n_must (by (with_reducible refine and_shape ?_) <;> kernel_rfl) ?_); (refine gs ?_)))
  refine n_ldI (.raw (.map (some mb))) rfl rfl (fun _ w1 _ hI1 => load_cell aggGMap (blk_at (hI1.res 0 rfl rfl).1 (j := 2) rfl rfl)) ?_
  (refine gs ?_)
  refine gg ?_
  refine n_lookup (E := nmE) (ev' := rtV) (b := mb) (kr := .str nm) (zr := rtS (0, 0)) (z := rtV (0, 0)) s.m nm (rtS (s.lack nm)) nmK rfl rfl rfl rfl rfl rfl hnm rfl rfl (by rw [lkR]; rfl) (fun _ w1 _ hI1 => by exact (hI1.res 0 rfl rfl).2.1) ?_
  (refine gs ?_)
  refine gg ?_
  refine n_ldDI (.raw (.map (some mb))) rfl rfl (fun _ w1 _ hI1 => load_cell aggGMap (blk_at (hI1.res 0 rfl rfl).1 (j := 2) rfl rfl)) ?_
  (refine gs ?_)
  refine gg ?_
  rw [e]
  refine n_mapUpdate (E := nmE) (ev' := rtV) (i := 0) (b := mb) (kr := .str nm) (vr := rtS (max (s.lack nm).1 d, max (s.lack nm).2 u)) (ρ := gossRes p mb s) (gossRes p mb { s with m := mput s.m nm (max (s.lack nm).1 d, max (s.lack nm).2 u) }) s.m nm (max (s.lack nm).1 d, max (s.lack nm).2 u) nmK rfl rfl rfl rfl rfl rfl hnm rfl rfl rfl rfl rfl (by simp [gossRes]) rfl (fun _ _ _ _ h => by exact h.2.1) (fun _ _ _ _ _ hR1 hf1 h => goss_map hR1 hf1 h) ?_
  (refine gs ?_)
  refine gg ?_
  exact n_end0 rfl rfl fun ids' w' hp hI' => ⟨rfl, post_res hI' rfl 0 rfl rfl rfl⟩

/-! ### most -/
theorem cells_read {b : Nat} {l : List Value} {t : TypeId} {w : World} (h : (cellsRes b l t).R w) : (readRes (some ⟨b, 0, none⟩) l).R w := fun j u hu => ⟨_, rfl, cellsRes_at h hu rfl⟩
theorem row_read {e : TypeId} {size n cap : Nat} {o : Option Addr} {xs : List Value} {w : World} (h : (rowRes e size o n cap xs).R w) : (readRes o xs).R w := fun j u hu => by
  have hj := (List.getElem?_eq_some_iff.1 hu).1
  have h' : w.ownsRow 0 e size (.slice o n cap) n xs := h
  have hn : 0 < n := by
    rcases Nat.eq_zero_or_pos n with h0 | h0
    · have hl : xs.length = n * size := h'.1
      rw [h0] at hl; omega
    · exact h0
  obtain ⟨g, rfl⟩ := rowRes_some' h hn
  exact ⟨_, rfl, rowRes_cell h hu⟩
theorem aggRt : aggB Tryz.prog 37 = some true := by kernel_rfl
theorem rts_some {o : Option Addr} {K : List (Int × Int)} {w : World} (h : (readRes o (K.flatMap rtL)).R w) (hn : 0 < K.length) : ∃ a, o = some a := by
  cases K with
  | nil => simp at hn
  | cons x L => obtain ⟨a, ha, _⟩ := h 0 (.int .i64 x.1) rfl; exact ⟨a, ha⟩
theorem rts_cell {a : Addr} {K : List (Int × Int)} {w : World} (h : (readRes (some a) (K.flatMap rtL)).R w) {i : Nat} {x : Int × Int} (hx : K[i]? = some x) {j : Nat} {u : Value} (hu : (rtL x)[j]? = some u) {ad : Addr} (had : ad = a.add (i * 2 + j)) : w.cell? ad = some u := by
  have hj : j < 2 := by have := (List.getElem?_eq_some_iff.1 hu).1; simpa using this
  obtain ⟨a', ha, hc⟩ := h (i * 2 + j) u ((flat_at rt_len hx hj).trans hu)
  simp at ha; subst ha
  rw [had]; exact hc
def kindF : Bool → Int × Int → Int
  | true, x => x.1
  | false, x => x.2
def kindT (K : List (Int × Int)) (b : Bool) (i : Nat) : List Int := (List.range K.length).map fun j => if j < i then kindF b (K.getD j (0, 0)) else 0
theorem kindT_0 (K : List (Int × Int)) (b : Bool) : (kindT K b 0).map intV = (List.replicate K.length [Value.int .i64 0]).flatten := by
  unfold kindT
  simp only [Nat.not_lt_zero, if_false, List.map_map]
  generalize K.length = n
  induction n with
  | zero => rfl
  | succ n ih => rw [List.range_succ, List.replicate_succ']; simp [ih]
theorem kindT_n (K : List (Int × Int)) (b : Bool) : kindT K b K.length = K.map (kindF b) := by
  unfold kindT
  apply List.ext_getElem
  · simp
  · intro j h1 h2
    simp at h1 h2
    simp [h1]
theorem kindT_set (K : List (Int × Int)) (b : Bool) (i : Nat) (x : Int × Int) (hx : K[i]? = some x) : (kindT K b i).set i (kindF b x) = kindT K b (i + 1) := by
  unfold kindT
  apply List.ext_getElem
  · simp
  · intro j h1 h2
    simp only [List.getElem_set, List.getElem_map, List.getElem_range]
    by_cases e : i = j
    · subst e; simp [List.getD, hx]
    · rw [if_neg e]
      by_cases h : j < i
      · rw [if_pos h, if_pos (by omega)]
      · rw [if_neg h, if_neg (by omega)]
theorem kind1_ok (x : Int × Int) (w : World) : Calls Tryz.prog 39 #[rtV x] w fun e w' => e = .returned (.int .i64 x.1) ∧ Frm [] w w' := by
  have hI := Inv.nil (P := Tryz.prog) (N := 5) (S := []) (os := []) w
  refine calls_sm (cx 5 [] [] w) (vals := [rtS x]) mixed Tryz.func39 rfl rfl rfl hI rfl (st rfl ?_); conv => arg 3; whnf
  refine gg ?_
  exact n_ret0 rfl rfl fun ids' w' hp hI' => ⟨rfl, hI'.frm⟩
theorem kind2_ok (x : Int × Int) (w : World) : Calls Tryz.prog 40 #[rtV x] w fun e w' => e = .returned (.int .i64 x.2) ∧ Frm [] w w' := by
  have hI := Inv.nil (P := Tryz.prog) (N := 5) (S := []) (os := []) w
  refine calls_sm (cx 5 [] [] w) (vals := [rtS x]) mixed Tryz.func40 rfl rfl rfl hI rfl (st rfl ?_); conv => arg 3; whnf
  refine gg ?_
  exact n_ret0 rfl rfl fun ids' w' hp hI' => ⟨rfl, hI'.frm⟩
theorem most1_ok {p mb : Nat} {s : Gs} {w : World} (hR : (gossRes p mb s).R w) (hme : -10 ≤ s.me ∧ s.me ≤ 1000) {o : Option Addr} {K : List (Int × Int)} (cap : Nat) (hK : (readRes o (K.flatMap rtL)).R w) (hKlt : ∀ x ∈ (readRes o (K.flatMap rtL)).fp, x < w.heap.size) (hap : ∀ x ∈ (gossRes p mb s).fp, x ∉ (readRes o (K.flatMap rtL)).fp) (hl : K.length ≤ 1000) :
    Calls Tryz.prog 38 #[pV p, .slice o K.length cap, .func (.func 39) #[] #[]] w fun e w' => e = .returned (.int .i64 (askF s.me (K.map (kindF true)))) ∧ Frm [] w w' := by
  obtain ⟨it, hit, hparts⟩ := Option.map_eq_some_iff.1 intInfo
  simp only [Prod.mk.injEq] at hparts
  have hI : Inv (cx 34 [] [] w) w [0, 0] [⟨71, [.res (gossRes p mb s)], false⟩, ⟨37, [.res (readRes o (K.flatMap rtL))], false⟩] :=
    ((Inv.nil w).consR (by simp) hR (gossRes_lt hR) (by simp)).consR (by intro x hx hm; simp at hm; exact hap x hm hx) hK hKlt (by simp)
  refine calls_sm (cx 34 [] [] w) (vals := [.raw (pV p), .raw (.slice o K.length cap), .fn (.func 39) [] []]) mixed Tryz.func38 rfl rfl rfl hI rfl (st rfl ?_); conv => arg 3; whnf
  refine gg ?_
  refine n_makeSlice (n := K.length) 3 rfl rfl rfl Tryz.underlying95 hit hparts.1 (by rw [hparts.2.1]; rfl) hparts.2.2 rfl rfl (by omega) (by omega) fun y hy => ?_
  (refine gs ?_)
  refine gg ?_
  rw [show (List.replicate K.length (Value.int .i64 0).cells.toList).flatten = (kindT K true 0).map intV from (kindT_0 K true).symm]
  refine n_loop (σ := Nat) (fun i => [(0, .raw (pV p)), (1, .raw (.slice o K.length cap)), (2, .fn (.func 39) [] []), (7, .raw (.slice (some ⟨y, 0, none⟩) K.length K.length)), (13, .raw (.slice o K.length cap)), (14, .int .i64 (K.length : Nat)), (15, .int .i64 (i : Nat))]) (fun i => [⟨71, [.res (gossRes p mb s)], false⟩, ⟨37, [.res (readRes o (K.flatMap rtL))], false⟩, ⟨3, [.res (cellsRes y ((kindT K true i).map intV) 3)], true⟩]) (fun i => i ≤ K.length) (fun i => K.length - i) 0 mixed (by omega) (fun _ _ => rfl) rfl (by (repeat (first | exact trivial | refine ⟨⟨rfl, rfl⟩, ?_⟩))) (fun s _ => ⟨by (repeat (first | exact trivial | refine ⟨⟨_, rfl⟩, ?_⟩)), by (repeat (first | exact trivial | refine ⟨⟨_, rfl⟩, ?_⟩))⟩) fun i hi => ?_
  (refine gs ?_)
  by_cases hlt : i < K.length
  · have ei : IntKind.i64.wrap ((i : Int) + 1) = ((i + 1 : Nat) : Int) := by rw [w64 (by omega) (by omega)]; simp
    obtain ⟨a, rfl⟩ := rts_some hK (by omega)
    have hx : K[i]? = some K[i] := List.getElem?_eq_getElem _
    have hset := kindT_set K true i _ hx
    have hlen : (kindT K true i).length = K.length := by simp [kindT]
    generalize K[i] = x at hx hset
    refine gw ?_
    refine n_ldI (rtS x) rfl rfl (fun _ w1 _ hI1 => load_row (l := rtL x) aggRt sizeRt fun j u hu => rts_cell (hI1.res 1 rfl rfl) hx hu (by simp [add_add])) ?_
    (refine gs ?_)
    refine gw ?_
    refine n_sameP (.int .i64 (kindF true x)) rfl rfl rfl (fun _ w1 hp1 hI1 => kind1_ok x w1) ?_; (refine gs ?_)
    refine gw ?_
    refine n_storeA (n := y) (off := i) (k := 1) (l := (kindT K true i).map intV) (rv := .int .i64 (kindF true x)) (v := .int .i64 (kindF true x)) 2 (cellsRes y ((kindT K true (i + 1)).map intV) 3) ((kindT K true (i + 1)).map intV) rfl rfl rfl (by rw [add_mk]; simp) rfl rfl sizeInt rfl rfl rfl rfl rfl (by simp [cellsRes]) (fun w h => h) (by rw [List.length_map, hlen]; omega) (by rw [← hset]; exact map_set (by rw [hlen]; exact hlt)) (fun w w' h hf hb => hb) (by simp [cellsRes]) ?_
    (refine gs ?_)
    refine gw ?_
    exact n_again ⟨i + 1, by omega, by omega, (by (repeat (first | exact trivial | refine ⟨⟨rfl, rfl⟩, ?_⟩ | refine ⟨⟨rfl, congrArg (SV.int .i64) ei⟩, ?_⟩))), ⟨_, rfl⟩⟩
  · obtain rfl : i = K.length := by omega
    refine gw ?_
    refine n_exit rfl ?_
    (refine gs ?_)
    refine gw ?_
    rw [kindT_n]
    refine n_ldI (.int .i64 s.me) rfl rfl (fun _ w1 _ hI1 => load_cell aggInt (blk_at (hI1.res 0 rfl rfl).1 (j := 0) rfl rfl)) ?_
    (refine gs ?_)
    refine gw ?_
    have hmap : (K.map (kindF true)).length = K.length := List.length_map _
    refine n_sameP (.int .i64 (askF s.me (K.map (kindF true)))) rfl rfl rfl (fun _ w1 hp1 hI1 => by
      have := Ask_ok (o := some ⟨y, 0, none⟩) (l := K.map (kindF true)) (cap := K.length) (cells_read (hI1.res 2 rfl rfl)) (fun x hx => hI1.resLt 2 rfl rfl x (rd_inC hx)) (by rw [hmap]; exact hl) s.me hme
      rw [hmap] at this
      exact this) ?_
    (refine gs ?_)
    refine gw ?_
    exact n_ret0 rfl rfl fun ids' w' hp hI' => ⟨rfl, hI'.frm⟩
theorem most2_ok {p mb : Nat} {s : Gs} {w : World} (hR : (gossRes p mb s).R w) (hme : -10 ≤ s.me ∧ s.me ≤ 1000) {o : Option Addr} {K : List (Int × Int)} (cap : Nat) (hK : (readRes o (K.flatMap rtL)).R w) (hKlt : ∀ x ∈ (readRes o (K.flatMap rtL)).fp, x < w.heap.size) (hap : ∀ x ∈ (gossRes p mb s).fp, x ∉ (readRes o (K.flatMap rtL)).fp) (hl : K.length ≤ 1000) :
    Calls Tryz.prog 38 #[pV p, .slice o K.length cap, .func (.func 40) #[] #[]] w fun e w' => e = .returned (.int .i64 (askF s.me (K.map (kindF false)))) ∧ Frm [] w w' := by
  obtain ⟨it, hit, hparts⟩ := Option.map_eq_some_iff.1 intInfo
  simp only [Prod.mk.injEq] at hparts
  have hI : Inv (cx 34 [] [] w) w [0, 0] [⟨71, [.res (gossRes p mb s)], false⟩, ⟨37, [.res (readRes o (K.flatMap rtL))], false⟩] :=
    ((Inv.nil w).consR (by simp) hR (gossRes_lt hR) (by simp)).consR (by intro x hx hm; simp at hm; exact hap x hm hx) hK hKlt (by simp)
  refine calls_sm (cx 34 [] [] w) (vals := [.raw (pV p), .raw (.slice o K.length cap), .fn (.func 40) [] []]) mixed Tryz.func38 rfl rfl rfl hI rfl (st rfl ?_); conv => arg 3; whnf
  refine gg ?_
  refine n_makeSlice (n := K.length) 3 rfl rfl rfl Tryz.underlying95 hit hparts.1 (by rw [hparts.2.1]; rfl) hparts.2.2 rfl rfl (by omega) (by omega) fun y hy => ?_
  (refine gs ?_)
  refine gg ?_
  rw [show (List.replicate K.length (Value.int .i64 0).cells.toList).flatten = (kindT K false 0).map intV from (kindT_0 K false).symm]
  refine n_loop (σ := Nat) (fun i => [(0, .raw (pV p)), (1, .raw (.slice o K.length cap)), (2, .fn (.func 40) [] []), (7, .raw (.slice (some ⟨y, 0, none⟩) K.length K.length)), (13, .raw (.slice o K.length cap)), (14, .int .i64 (K.length : Nat)), (15, .int .i64 (i : Nat))]) (fun i => [⟨71, [.res (gossRes p mb s)], false⟩, ⟨37, [.res (readRes o (K.flatMap rtL))], false⟩, ⟨3, [.res (cellsRes y ((kindT K false i).map intV) 3)], true⟩]) (fun i => i ≤ K.length) (fun i => K.length - i) 0 mixed (by omega) (fun _ _ => rfl) rfl (by (repeat (first | exact trivial | refine ⟨⟨rfl, rfl⟩, ?_⟩))) (fun s _ => ⟨by (repeat (first | exact trivial | refine ⟨⟨_, rfl⟩, ?_⟩)), by (repeat (first | exact trivial | refine ⟨⟨_, rfl⟩, ?_⟩))⟩) fun i hi => ?_
  (refine gs ?_)
  by_cases hlt : i < K.length
  · have ei : IntKind.i64.wrap ((i : Int) + 1) = ((i + 1 : Nat) : Int) := by rw [w64 (by omega) (by omega)]; simp
    obtain ⟨a, rfl⟩ := rts_some hK (by omega)
    have hx : K[i]? = some K[i] := List.getElem?_eq_getElem _
    have hset := kindT_set K false i _ hx
    have hlen : (kindT K false i).length = K.length := by simp [kindT]
    generalize K[i] = x at hx hset
    refine gw ?_
    refine n_ldI (rtS x) rfl rfl (fun _ w1 _ hI1 => load_row (l := rtL x) aggRt sizeRt fun j u hu => rts_cell (hI1.res 1 rfl rfl) hx hu (by simp [add_add])) ?_
    (refine gs ?_)
    refine gw ?_
    refine n_sameP (.int .i64 (kindF false x)) rfl rfl rfl (fun _ w1 hp1 hI1 => kind2_ok x w1) ?_; (refine gs ?_)
    refine gw ?_
    refine n_storeA (n := y) (off := i) (k := 1) (l := (kindT K false i).map intV) (rv := .int .i64 (kindF false x)) (v := .int .i64 (kindF false x)) 2 (cellsRes y ((kindT K false (i + 1)).map intV) 3) ((kindT K false (i + 1)).map intV) rfl rfl rfl (by rw [add_mk]; simp) rfl rfl sizeInt rfl rfl rfl rfl rfl (by simp [cellsRes]) (fun w h => h) (by rw [List.length_map, hlen]; omega) (by rw [← hset]; exact map_set (by rw [hlen]; exact hlt)) (fun w w' h hf hb => hb) (by simp [cellsRes]) ?_
    (refine gs ?_)
    refine gw ?_
    exact n_again ⟨i + 1, by omega, by omega, (by (repeat (first | exact trivial | refine ⟨⟨rfl, rfl⟩, ?_⟩ | refine ⟨⟨rfl, congrArg (SV.int .i64) ei⟩, ?_⟩))), ⟨_, rfl⟩⟩
  · obtain rfl : i = K.length := by omega
    refine gw ?_
    refine n_exit rfl ?_
    (refine gs ?_)
    refine gw ?_
    rw [kindT_n]
    refine n_ldI (.int .i64 s.me) rfl rfl (fun _ w1 _ hI1 => load_cell aggInt (blk_at (hI1.res 0 rfl rfl).1 (j := 0) rfl rfl)) ?_
    (refine gs ?_)
    refine gw ?_
    have hmap : (K.map (kindF false)).length = K.length := List.length_map _
    refine n_sameP (.int .i64 (askF s.me (K.map (kindF false)))) rfl rfl rfl (fun _ w1 hp1 hI1 => by
      have := Ask_ok (o := some ⟨y, 0, none⟩) (l := K.map (kindF false)) (cap := K.length) (cells_read (hI1.res 2 rfl rfl)) (fun x hx => hI1.resLt 2 rfl rfl x (rd_inC hx)) (by rw [hmap]; exact hl) s.me hme
      rw [hmap] at this
      exact this) ?_
    (refine gs ?_)
    refine gw ?_
    exact n_ret0 rfl rfl fun ids' w' hp hI' => ⟨rfl, hI'.frm⟩
end Go.Proofs.YtglafgpjgkphkaaGreatDoor
