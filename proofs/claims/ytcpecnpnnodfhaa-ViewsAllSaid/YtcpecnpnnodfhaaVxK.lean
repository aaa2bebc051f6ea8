/- Chapter 9's law: marks; viewed, righted, rights. -/
import Derived.Test.YtcpecnpnnodfhaaBnVd
set_option maxRecDepth 100000
set_option linter.unusedSimpArgs false
set_option linter.unusedVariables false
set_option maxHeartbeats 8000000
namespace Go.Proofs.Ytcpecnpnnodfhaa
open Go.RowKit

theorem aggRt : aggB Try.prog 47 = some true := by kernel_rfl
theorem rts_len (L : List (Int × Int)) : (rts L).length = L.length * 2 := flat_len rt_len L
theorem rts_one (L : List (Int × Int)) : ∀ u ∈ rts L, u.oneCell' = true := by
  intro u hu
  obtain ⟨t, _, ht⟩ := List.mem_flatMap.1 hu
  simp at ht
  rcases ht with rfl | rfl <;> rfl
theorem rts_app (L M : List (Int × Int)) : rts (L ++ M) = rts L ++ rts M := List.flatMap_append
theorem rts_add (L : List (Int × Int)) (t : Int × Int) : rts L ++ rtL t = rts (L ++ [t]) := by rw [rts_app]; simp
theorem rt_some {o : Option Addr} {L : List (Int × Int)} {w : World} (h : (readRes o (rts L)).R w) (hn : 0 < L.length) : ∃ a, o = some a := rd_some rt_len (by omega) h hn
theorem rt_cell {a : Addr} {L : List (Int × Int)} {w : World} (h : (readRes (some a) (rts L)).R w) {i : Nat} {x : Int × Int} (hx : L[i]? = some x) {j : Nat} {u : Value} (hu : (rtL x)[j]? = some u) {ad : Addr} (had : ad = a.add (i * 2 + j)) : w.cell? ad = some u :=
  rd_at rt_len h hx (by have := (List.getElem?_eq_some_iff.1 hu).1; simpa using this) hu had
abbrev rtA (x : Int × Int) : Value := .agg #[.int .i64 x.1, .int .i64 x.2]
theorem rt_row {a : Addr} {L : List (Int × Int)} {w : World} (h : (readRes (some a) (rts L)).R w) {i : Nat} {x : Int × Int} (hx : L[i]? = some x) {ad : Addr} (had : ad = a.add (i * 2)) : (loadVar 47 ad).run Try.prog w = .ok (rtA x) w :=
  load_row (l := rtL x) aggRt sizeRt fun j u hu => rt_cell h hx hu (by rw [had, add_add])
theorem infoRt : (Try.prog.info? 47).map (fun i => (i.zero, i.size, i.bytes)) = some (some (rtA (0, 0)), 2, 16) := by kernel_rfl
theorem elemRt9 : sliceElem Try.prog 45 = some 47 := by kernel_rfl

/-! ### Marks -/
def mkD (i k : Nat) : Vw := ⟨{ data := #[] }, (k : Int), 0, -1000 - (i : Int), 0, 0, 0⟩
def mkK (i k : Nat) : Int × Int := (-1000 - (i : Int), (k : Int))
def mksD (i n : Nat) : List Vw := (List.range n).map (mkD i)
def mksK (i n : Nat) : List (Int × Int) := (List.range n).map (mkK i)
theorem mksD_len (i n : Nat) : (mksD i n).length = n := by simp [mksD]
theorem mksK_len (i n : Nat) : (mksK i n).length = n := by simp [mksK]
theorem mksD_at {i n k : Nat} (h : k < n) : (mksD i n)[k]? = some (mkD i k) := by simp [mksD, h]
theorem mksK_at {i n k : Nat} (h : k < n) : (mksK i n)[k]? = some (mkK i k) := by simp [mksK, h]
theorem mksD_next (i n : Nat) : mksD i (n + 1) = mksD i n ++ [mkD i n] := by simp [mksD, List.range_succ]
theorem mksK_next (i n : Nat) : mksK i (n + 1) = mksK i n ++ [mkK i n] := by simp [mksK, List.range_succ]
theorem mksD_pre (i : Nat) {n k : Nat} (h : n ≤ k) : vws (mksD i n) <+: vws (mksD i k) := by
  refine ⟨vws ((List.range' n (k - n)).map (mkD i)), ?_⟩
  rw [← vws_app, mksD, mksD, ← List.map_append]
  have := List.range'_append_1 (s := 0) (m := n) (n := k - n)
  rw [Nat.zero_add, show n + (k - n) = k by omega] at this
  rw [List.range_eq_range', List.range_eq_range', this]
theorem mksK_pre (i : Nat) {n k : Nat} (h : n ≤ k) : rts (mksK i n) <+: rts (mksK i k) := by
  refine ⟨rts ((List.range' n (k - n)).map (mkK i)), ?_⟩
  rw [← rts_app, mksK, mksK, ← List.map_append]
  have := List.range'_append_1 (s := 0) (m := n) (n := k - n)
  rw [Nat.zero_add, show n + (k - n) = k by omega] at this
  rw [List.range_eq_range', List.range_eq_range', this]
theorem viewed_ok {o : Option Addr} {i n cap : Nat} {w : World} (hR : (readRes o (vws (mksD i n))).R w) (hn : n ≤ 1000000) :
    Calls Try.prog 43 #[.slice o n cap, .int .i64 (-1000 - (i : Int))] w fun e w' => e = .returned (.bool true) ∧ Frm [] w w' := by
  have hI := Inv.nil (P := Try.prog) (N := 36) (S := []) (os := []) w
  have h1 : ∀ w1, Frm [] w w1 → (readRes o (vws (mksD i n))).R w1 := fun w1 hf => (readRes o (vws (mksD i n))).stable _ _ (fun k hk => hf.block k (rd_lt hR k hk) (by simp)) hR
  refine calls_sm (cx 36 [] [] w) (vals := [.raw (.slice o n cap), .int .i64 (-1000 - (i : Int))]) mixed Try.func43 rfl rfl rfl hI rfl (st rfl ?_); conv => arg 3; whnf
  refine gw ?_
  refine n_loop (σ := Nat) (fun k => [(0, .raw (.slice o n cap)), (1, .int .i64 (-1000 - (i : Int))), (5, .int .i64 (k : Nat))]) (fun _ => []) (fun k => k ≤ n) (fun k => n - k) 0 mixed (by omega) (fun _ _ => rfl) rfl (by (repeat (first | exact trivial | refine ⟨⟨rfl, rfl⟩, ?_⟩))) (fun s _ => ⟨by (repeat (first | exact trivial | refine ⟨⟨_, rfl⟩, ?_⟩)), by (repeat (first | exact trivial | refine ⟨⟨_, rfl⟩, ?_⟩))⟩) fun k hk => ?_
  (refine gs ?_)
  by_cases hkn : k < n
  · have ei : IntKind.i64.wrap ((k : Int) + 1) = ((k + 1 : Nat) : Int) := by rw [w64 (by omega) (by omega)]; simp
    have hx := mksD_at (i := i) hkn
    obtain ⟨ad, rfl⟩ : ∃ a, o = some a := read_some hR (by rw [mksD_len]; omega)
    (repeat ((first | refine n_must rfl ?_ | refine n_chk (drawF_ok (by decide +kernel)) ?_ | refine n_same rfl ?_ | ((first | refine n_must ?_ ?_ | refine n_brT ?_ ?_); (focus (first | (simp [hkn]; done) | (simp [hkn]; omega) | (simp only [hkn]; simp; done)))) | (refine n_brF ?_ ?_; (focus (first | (simp [hkn]; done) | (simp [hkn]; omega) | (simp only [hkn]; simp; done)))) | refine n_must (by (with_reducible refine and_shape ?_) <;> kernel_rfl) ?_); (refine gs ?_)))
    (refine n_ldA (.int .i64 (-1000 - (i : Int))) rfl (by first | exact trivial | rfl) rfl (fun _ w1 _ hI1 => load_cell aggInt (read_cell (h1 _ hI1.frm) hx (j := 3) rfl (by rw [add_add]; simp))) ?_; (refine gs ?_))
    (repeat ((first | refine n_must rfl ?_ | refine n_chk (drawF_ok (by decide +kernel)) ?_ | refine n_same rfl ?_ | ((first | refine n_must ?_ ?_ | refine n_brT ?_ ?_); (focus (first | (simp [hkn]; done) | (simp [hkn]; omega) | (simp only [hkn]; simp; done)))) | (refine n_brF ?_ ?_; (focus (first | (simp [hkn]; done) | (simp [hkn]; omega) | (simp only [hkn]; simp; done)))) | refine n_must (by (with_reducible refine and_shape ?_) <;> kernel_rfl) ?_); (refine gs ?_)))
    (refine n_ldA (.int .i64 (k : Nat)) rfl (by first | exact trivial | rfl) rfl (fun _ w1 _ hI1 => load_cell aggInt (read_cell (h1 _ hI1.frm) hx (j := 1) rfl (by rw [add_add]; simp))) ?_; (refine gs ?_))
    (repeat ((first | refine n_must rfl ?_ | refine n_chk (drawF_ok (by decide +kernel)) ?_ | refine n_same rfl ?_ | ((first | refine n_must ?_ ?_ | refine n_brT ?_ ?_); (focus (first | (simp [hkn]; done) | (simp [hkn]; omega) | (simp only [hkn]; simp; done)))) | (refine n_brF ?_ ?_; (focus (first | (simp [hkn]; done) | (simp [hkn]; omega) | (simp only [hkn]; simp; done)))) | refine n_must (by (with_reducible refine and_shape ?_) <;> kernel_rfl) ?_); (refine gs ?_)))
    (refine n_ldA (.str { data := #[] }) rfl (by first | exact trivial | rfl) rfl (fun _ w1 _ hI1 => load_cell aggStr (read_cell (h1 _ hI1.frm) hx (j := 0) rfl (by rw [add_add]; simp))) ?_; (refine gs ?_))
    refine gw ?_
    exact n_again ⟨k + 1, by omega, by omega, (by (repeat (first | exact trivial | refine ⟨⟨rfl, rfl⟩, ?_⟩ | refine ⟨⟨rfl, congrArg (SV.int .i64) ei⟩, ?_⟩))), ⟨_, rfl⟩⟩
  · obtain rfl : k = n := by omega
    (repeat ((first | refine n_must rfl ?_ | refine n_chk (drawF_ok (by decide +kernel)) ?_ | refine n_same rfl ?_ | ((first | refine n_must ?_ ?_ | refine n_brT ?_ ?_); (focus (first | (simp [hkn]; done) | (simp [hkn]; omega) | (simp only [hkn]; simp; done)))) | (refine n_brF ?_ ?_; (focus (first | (simp [hkn]; done) | (simp [hkn]; omega) | (simp only [hkn]; simp; done)))) | refine n_must (by (with_reducible refine and_shape ?_) <;> kernel_rfl) ?_); (refine gs ?_)))
    refine n_exit rfl ?_
    (refine gs ?_)
    refine gw ?_
    exact n_ret0 rfl rfl fun ids' w' hp hI' => ⟨rfl, hI'.frm⟩
theorem righted_ok {o : Option Addr} {i n cap : Nat} {w : World} (hR : (readRes o (rts (mksK i n))).R w) (hn : n ≤ 1000000) :
    Calls Try.prog 44 #[.slice o n cap, .int .i64 (-1000 - (i : Int))] w fun e w' => e = .returned (.bool true) ∧ Frm [] w w' := by
  have hI := Inv.nil (P := Try.prog) (N := 28) (S := []) (os := []) w
  have h1 : ∀ w1, Frm [] w w1 → (readRes o (rts (mksK i n))).R w1 := fun w1 hf => (readRes o (rts (mksK i n))).stable _ _ (fun k hk => hf.block k (rd_lt hR k hk) (by simp)) hR
  refine calls_sm (cx 28 [] [] w) (vals := [.raw (.slice o n cap), .int .i64 (-1000 - (i : Int))]) mixed Try.func44 rfl rfl rfl hI rfl (st rfl ?_); conv => arg 3; whnf
  refine gw ?_
  refine n_loop (σ := Nat) (fun k => [(0, .raw (.slice o n cap)), (1, .int .i64 (-1000 - (i : Int))), (5, .int .i64 (k : Nat))]) (fun _ => []) (fun k => k ≤ n) (fun k => n - k) 0 mixed (by omega) (fun _ _ => rfl) rfl (by (repeat (first | exact trivial | refine ⟨⟨rfl, rfl⟩, ?_⟩))) (fun s _ => ⟨by (repeat (first | exact trivial | refine ⟨⟨_, rfl⟩, ?_⟩)), by (repeat (first | exact trivial | refine ⟨⟨_, rfl⟩, ?_⟩))⟩) fun k hk => ?_
  (refine gs ?_)
  by_cases hkn : k < n
  · have ei : IntKind.i64.wrap ((k : Int) + 1) = ((k + 1 : Nat) : Int) := by rw [w64 (by omega) (by omega)]; simp
    have hx := mksK_at (i := i) hkn
    obtain ⟨ad, rfl⟩ : ∃ a, o = some a := rt_some hR (by rw [mksK_len]; omega)
    (repeat ((first | refine n_must rfl ?_ | refine n_chk (drawF_ok (by decide +kernel)) ?_ | refine n_same rfl ?_ | ((first | refine n_must ?_ ?_ | refine n_brT ?_ ?_); (focus (first | (simp [hkn]; done) | (simp [hkn]; omega) | (simp only [hkn]; simp; done)))) | (refine n_brF ?_ ?_; (focus (first | (simp [hkn]; done) | (simp [hkn]; omega) | (simp only [hkn]; simp; done)))) | refine n_must (by (with_reducible refine and_shape ?_) <;> kernel_rfl) ?_); (refine gs ?_)))
    (refine n_ldA (.int .i64 (-1000 - (i : Int))) rfl (by first | exact trivial | rfl) rfl (fun _ w1 _ hI1 => load_cell aggInt (rt_cell (h1 _ hI1.frm) hx (j := 0) rfl (by rw [add_add]; simp))) ?_; (refine gs ?_))
    (repeat ((first | refine n_must rfl ?_ | refine n_chk (drawF_ok (by decide +kernel)) ?_ | refine n_same rfl ?_ | ((first | refine n_must ?_ ?_ | refine n_brT ?_ ?_); (focus (first | (simp [hkn]; done) | (simp [hkn]; omega) | (simp only [hkn]; simp; done)))) | (refine n_brF ?_ ?_; (focus (first | (simp [hkn]; done) | (simp [hkn]; omega) | (simp only [hkn]; simp; done)))) | refine n_must (by (with_reducible refine and_shape ?_) <;> kernel_rfl) ?_); (refine gs ?_)))
    (refine n_ldA (.int .i64 (k : Nat)) rfl (by first | exact trivial | rfl) rfl (fun _ w1 _ hI1 => load_cell aggInt (rt_cell (h1 _ hI1.frm) hx (j := 1) rfl (by rw [add_add]; simp))) ?_; (refine gs ?_))
    refine gw ?_
    exact n_again ⟨k + 1, by omega, by omega, (by (repeat (first | exact trivial | refine ⟨⟨rfl, rfl⟩, ?_⟩ | refine ⟨⟨rfl, congrArg (SV.int .i64) ei⟩, ?_⟩))), ⟨_, rfl⟩⟩
  · obtain rfl : k = n := by omega
    (repeat ((first | refine n_must rfl ?_ | refine n_chk (drawF_ok (by decide +kernel)) ?_ | refine n_same rfl ?_ | ((first | refine n_must ?_ ?_ | refine n_brT ?_ ?_); (focus (first | (simp [hkn]; done) | (simp [hkn]; omega) | (simp only [hkn]; simp; done)))) | (refine n_brF ?_ ?_; (focus (first | (simp [hkn]; done) | (simp [hkn]; omega) | (simp only [hkn]; simp; done)))) | refine n_must (by (with_reducible refine and_shape ?_) <;> kernel_rfl) ?_); (refine gs ?_)))
    refine n_exit rfl ?_
    (refine gs ?_)
    refine gw ?_
    exact n_ret0 rfl rfl fun ids' w' hp hI' => ⟨rfl, hI'.frm⟩
theorem rights_n {o o2 : Option Addr} {l : List (Int × Int)} {n cap cap2 : Nat} {w : World} (hn : l.length = n) (hR : (readRes o (rts l)).R w) (hR2 : (readRes o2 (rts l)).R w) (hl : n ≤ 9223372036854775806) :
    Calls Try.prog 42 #[.slice o n cap, .slice o2 n cap2] w fun e w' => e = .returned (.bool true) ∧ Frm [] w w' := by
  subst hn
  have hI := Inv.nil (P := Try.prog) (N := 27) (S := []) (os := []) w
  have h1 : ∀ w1, Frm [] w w1 → (readRes o (rts l)).R w1 := fun w1 hf => (readRes o (rts l)).stable _ _ (fun k hk => hf.block k (rd_lt hR k hk) (by simp)) hR
  have h2 : ∀ w1, Frm [] w w1 → (readRes o2 (rts l)).R w1 := fun w1 hf => (readRes o2 (rts l)).stable _ _ (fun k hk => hf.block k (rd_lt hR2 k hk) (by simp)) hR2
  refine calls_sm (cx 27 [] [] w) (vals := [.raw (.slice o l.length cap), .raw (.slice o2 l.length cap2)]) mixed Try.func42 rfl rfl rfl hI rfl (st rfl ?_); conv => arg 3; whnf
  refine gw ?_
  refine n_loop (σ := Nat) (fun i => [(0, .raw (.slice o l.length cap)), (1, .raw (.slice o2 l.length cap2)), (5, .int .i64 (i : Nat))]) (fun _ => []) (fun i => i ≤ l.length) (fun i => l.length - i) 0 mixed (by omega) (fun _ _ => rfl) rfl (by (repeat (first | exact trivial | refine ⟨⟨rfl, rfl⟩, ?_⟩))) (fun s _ => ⟨by (repeat (first | exact trivial | refine ⟨⟨_, rfl⟩, ?_⟩)), by (repeat (first | exact trivial | refine ⟨⟨_, rfl⟩, ?_⟩))⟩) fun i hi => ?_
  (refine gs ?_)
  by_cases hlt3 : i < l.length
  · have ei : IntKind.i64.wrap ((i : Int) + 1) = ((i + 1 : Nat) : Int) := by rw [w64 (by omega) (by omega)]; simp
    have hx : l[i]? = some l[i] := List.getElem?_eq_getElem _
    obtain ⟨ad, rfl⟩ : ∃ a, o = some a := rt_some hR (by omega)
    obtain ⟨ad2, rfl⟩ : ∃ a, o2 = some a := rt_some hR2 (by omega)
    generalize l[i] = p at hx
    obtain ⟨p1, p2⟩ := p
    refine gw ?_
    (refine n_ldA (.agg [.int .i64 p1, .int .i64 p2]) rfl (by first | exact trivial | rfl) rfl (fun _ w1 _ hI1 => rt_row (h1 _ hI1.frm) hx rfl) ?_; (refine gs ?_))
    refine gw ?_
    (refine n_ldA (.agg [.int .i64 p1, .int .i64 p2]) rfl (by first | exact trivial | rfl) rfl (fun _ w1 _ hI1 => rt_row (h2 _ hI1.frm) hx rfl) ?_; (refine gs ?_))
    refine gw ?_
    refine n_sameP (.bool true) rfl rfl rfl (fun _ w1 hp1 hI1 => (sameR_ok (p1, p2) (p1, p2) w1).mono fun e w' ⟨he, hf⟩ => ⟨by rw [he]; simp, hf⟩) ?_; (refine gs ?_)
    refine gw ?_
    exact n_again ⟨i + 1, by omega, by omega, (by (repeat (first | exact trivial | refine ⟨⟨rfl, rfl⟩, ?_⟩ | refine ⟨⟨rfl, congrArg (SV.int .i64) ei⟩, ?_⟩))), ⟨_, rfl⟩⟩
  · obtain rfl : i = l.length := by omega
    refine gw ?_
    refine n_exit rfl ?_
    (refine gs ?_)
    refine gw ?_
    exact n_ret0 rfl rfl fun ids' w' hp hI' => ⟨rfl, hI'.frm⟩
end Go.Proofs.Ytcpecnpnnodfhaa
