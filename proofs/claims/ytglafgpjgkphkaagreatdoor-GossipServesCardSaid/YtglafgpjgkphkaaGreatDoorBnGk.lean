/- Package share: Ask, Give; the document's. The document's Ask; it is the program's. -/
import Derived.Test.YtglafgpjgkphkaaGreatDoorBnGi
import Derived.Test.YtglafgpjgkphkaaGreatDoorBnGh
import Derived.Test.YtglafgpjgkphkaaGreatDoorBnQ
namespace Go.Proofs.YtglafgpjgkphkaaGreatDoor
section
set_option maxRecDepth 100000
set_option linter.unusedSimpArgs false
set_option linter.unusedVariables false
set_option maxHeartbeats 4000000
open Go.RowKit

theorem ints_some {o : Option Addr} {l : List Int} {w : World} (h : (readRes o (l.map intV)).R w) (hn : 0 < l.length) : ∃ a, o = some a := by
  cases l with
  | nil => simp at hn
  | cons x L => obtain ⟨a, ha, _⟩ := h 0 (.int .i64 x) rfl; exact ⟨a, ha⟩
theorem ints_cell {a : Addr} {l : List Int} {w : World} (h : (readRes (some a) (l.map intV)).R w) {i : Nat} {x : Int} (hx : l[i]? = some x) {ad : Addr} (had : ad = a.add i) : w.cell? ad = some (.int .i64 x) := by
  obtain ⟨a', ha, hc⟩ := h i (.int .i64 x) (by simp [hx])
  simp at ha; subst ha
  rw [had]; exact hc

/-! ### Ask -/
def lookS (l : List Int) (s : Int × Int) (i : Nat) : Int × Int := if s.2 < l.getD i 0 then ((i : Int), l.getD i 0) else s
def lookN (l : List Int) (s : Int × Int) (fr k : Nat) : Int × Int := (List.range' fr k).foldl (lookS l) s
theorem lookN_next (l : List Int) (s : Int × Int) (fr k : Nat) : lookN l s fr (k + 1) = lookS l (lookN l s fr k) (fr + k) := by
  unfold lookN
  rw [List.range'_concat]
  simp
theorem look_ok {bk bm bb : Nat} {o : Option Addr} {l : List Int} {cap : Nat} {w : World} {st0 : Int × Int} (hk : Blk w bk #[.slice o l.length cap] 95) (hm : Blk w bm #[.int .i64 st0.2] 3) (hb : Blk w bb #[.int .i64 st0.1] 3) (n1 : bk ≠ bm) (n2 : bk ≠ bb) (n3 : bm ≠ bb)
    (hL : (readRes o (l.map intV)).R w) (hLlt : ∀ x ∈ (readRes o (l.map intV)).fp, x < w.heap.size) (hap : ∀ x ∈ [bk, bm, bb], x ∉ (readRes o (l.map intV)).fp) (fr : Nat) (to : Int) (k : Nat) (hto : k = (to - fr).toNat) (hle : to ≤ l.length) (hfr : fr ≤ 1000000) (hll : l.length ≤ 1000000) (hlo : -10 ≤ to) :
    Calls Tryz.prog 70 #[.int .i64 (fr : Nat), .int .i64 to, pV bk, pV bm, pV bb] w fun e w' => e = .returned (.tuple #[]) ∧ Frm [bm, bb] w w' ∧ Blk w' bm #[.int .i64 (lookN l st0 fr k).2] 3 ∧ Blk w' bb #[.int .i64 (lookN l st0 fr k).1] 3 := by
  have hI : Inv (cx 25 [(4, .of [(0, []), (1, []), (2, []), (3, []), (4, []), (5, [4, 1]), (6, [])])] [bm, bb] w) w [bm, bb, bk, 0] [⟨3, [.int .i64 st0.2], true⟩, ⟨3, [.int .i64 st0.1], true⟩, ⟨95, [.raw (.slice o l.length cap)], false⟩, ⟨3, [.res (readRes o (l.map intV))], false⟩] :=
    ((((Inv.nil w).cons (by simp) rfl hm (by simp)).cons (by simpa using fun e => n3 e.symm) rfl hb (by simp)).cons (by simp; exact ⟨n1, n2⟩) rfl hk (by simp)).consR (by intro x hx hmm; exact hap x (by simp at hmm ⊢; omega) hx) hL hLlt (by simp)
  refine calls_sm (cx 25 [(4, .of [(0, []), (1, []), (2, []), (3, []), (4, []), (5, [4, 1]), (6, [])])] [bm, bb] w) (vals := [.int .i64 (fr : Nat), .int .i64 to, .ptr 2 0, .ptr 0 0, .ptr 1 0]) mixed Tryz.func70 rfl rfl rfl hI rfl (st rfl ?_); conv => arg 3; whnf
  refine gg ?_
  refine n_loop (σ := Nat) (fun q => [(0, .int .i64 (fr : Nat)), (1, .int .i64 to), (2, .ptr 2 0), (3, .ptr 0 0), (4, .ptr 1 0), (7, .int .i64 ((fr + q : Nat) : Int))]) (fun q => [⟨3, [.int .i64 (lookN l st0 fr q).2], true⟩, ⟨3, [.int .i64 (lookN l st0 fr q).1], true⟩, ⟨95, [.raw (.slice o l.length cap)], false⟩, ⟨3, [.res (readRes o (l.map intV))], false⟩]) (fun q => q ≤ k) (fun q => k - q) 0 mixed (by omega) (fun _ _ => rfl) rfl (by (repeat (first | exact trivial | refine ⟨⟨rfl, rfl⟩, ?_⟩))) (fun s _ => ⟨by (repeat (first | exact trivial | refine ⟨⟨_, rfl⟩, ?_⟩)), by (repeat (first | exact trivial | refine ⟨⟨_, rfl⟩, ?_⟩))⟩) fun q hq => ?_
  (refine gs ?_)
  by_cases hlt : q < k
  · have hqt : ((fr + q : Nat) : Int) < to := by omega
    have hql : fr + q < l.length := by omega
    have hqi : ((fr + q : Nat) : Int) < (l.length : Int) := by omega
    have eq1 : IntKind.i64.wrap (((fr + q : Nat) : Int) + 1) = ((fr + (q + 1) : Nat) : Int) := by rw [w64 (by omega) (by omega)]; omega
    obtain ⟨a, rfl⟩ := ints_some hL (by omega)
    have hx : l[fr + q]? = some l[fr + q] := List.getElem?_eq_getElem _
    have hd : l.getD (fr + q) 0 = l[fr + q] := by simp [List.getD, hx]
    generalize l[fr + q] = x at hx hd
    have hnx := lookN_next l st0 fr q
    generalize lookN l st0 fr q = T at hnx
    obtain ⟨b0, m0⟩ := T
    generalize hP : fr + q = P at *
    (repeat ((first | refine n_must rfl ?_ | refine n_chk (drawF_ok (by decide +kernel)) ?_ | refine n_same rfl ?_ | ((first | refine n_must ?_ ?_ | refine n_brT ?_ ?_); (focus (first | (simp [hqt]; done) | (simp [hqt]; omega) | (simp only [hqt]; simp; done)))) | (refine n_brF ?_ ?_; (focus (first | (simp [hqt]; done) | (simp [hqt]; omega) | (simp only [hqt]; simp; done)))) | refine n_must (by (with_reducible refine and_shape ?_) <;> kernel_rfl) ?_); (refine gs ?_)))
    refine n_ldDI (.int .i64 x) rfl rfl (fun _ w1 _ hI1 => load_cell aggInt (ints_cell (hI1.res 3 rfl rfl) hx (by simp))) ?_
    (refine gs ?_)
    refine gw ?_
    by_cases hg : m0 < x
    · have e1 : lookS l (b0, m0) P = ((P : Int), x) := by rw [lookS, if_pos (by rw [hd]; exact hg), hd]
      rw [e1] at hnx
      (repeat ((first | refine n_must rfl ?_ | refine n_chk (drawF_ok (by decide +kernel)) ?_ | refine n_same rfl ?_ | ((first | refine n_must ?_ ?_ | refine n_brT ?_ ?_); (focus (first | (simp [hg]; done) | (simp [hg]; omega) | (simp only [hg]; simp; done)))) | (refine n_brF ?_ ?_; (focus (first | (simp [hg]; done) | (simp [hg]; omega) | (simp only [hg]; simp; done)))) | refine n_must (by (with_reducible refine and_shape ?_) <;> kernel_rfl) ?_); (refine gs ?_)))
      refine n_ldDI (.int .i64 x) rfl rfl (fun _ w1 _ hI1 => load_cell aggInt (ints_cell (hI1.res 3 rfl rfl) hx (by simp))) ?_
      (refine gs ?_)
      refine gw ?_
      repeat (refine n_ldRI (.int .i64 x) rfl (fun _ w1 _ hI1 => load_cell aggInt (ints_cell (hI1.res 3 rfl rfl) hx (by simp))) ?_; (refine gs ?_); refine gw ?_)
      refine n_again ⟨q + 1, by omega, by omega, ?_, ?_⟩
      · exact (by (repeat (first | exact trivial | refine ⟨⟨rfl, rfl⟩, ?_⟩ | refine ⟨⟨rfl, congrArg (SV.int .i64) eq1⟩, ?_⟩)))
      · rw [hnx]; exact ⟨_, rfl⟩
    · have e1 : lookS l (b0, m0) P = (b0, m0) := by rw [lookS, if_neg (by rw [hd]; exact hg)]
      rw [e1] at hnx
      (repeat ((first | refine n_must rfl ?_ | refine n_chk (drawF_ok (by decide +kernel)) ?_ | refine n_same rfl ?_ | ((first | refine n_must ?_ ?_ | refine n_brT ?_ ?_); (focus (first | (simp [hg]; done) | (simp [hg]; omega) | (simp only [hg]; simp; done)))) | (refine n_brF ?_ ?_; (focus (first | (simp [hg]; done) | (simp [hg]; omega) | (simp only [hg]; simp; done)))) | refine n_must (by (with_reducible refine and_shape ?_) <;> kernel_rfl) ?_); (refine gs ?_)))
      refine n_again ⟨q + 1, by omega, by omega, ?_, ?_⟩
      · exact (by (repeat (first | exact trivial | refine ⟨⟨rfl, rfl⟩, ?_⟩ | refine ⟨⟨rfl, congrArg (SV.int .i64) eq1⟩, ?_⟩)))
      · rw [hnx]; exact ⟨_, rfl⟩
  · have hqk : q = k := by omega
    subst hqk
    have hqt : ¬ ((fr + q : Nat) : Int) < to := by omega
    (repeat ((first | refine n_must rfl ?_ | refine n_chk (drawF_ok (by decide +kernel)) ?_ | refine n_same rfl ?_ | ((first | refine n_must ?_ ?_ | refine n_brT ?_ ?_); (focus (first | (simp [hqt]; done) | (simp [hqt]; omega) | (simp only [hqt]; simp; done)))) | (refine n_brF ?_ ?_; (focus (first | (simp [hqt]; done) | (simp [hqt]; omega) | (simp only [hqt]; simp; done)))) | refine n_must (by (with_reducible refine and_shape ?_) <;> kernel_rfl) ?_); (refine gs ?_)))
    refine n_exit rfl ?_
    (refine gs ?_)
    refine gw ?_
    exact n_end0 rfl rfl fun ids' w' hp hI' => ⟨rfl, hI'.frm, hI'.blk_at hp 0 rfl rfl rfl, hI'.blk_at hp 1 rfl rfl rfl⟩

def askF (me : Int) (l : List Int) : Int :=
  if 0 ≤ me ∧ me < l.length then (lookN l (lookN l (-1, 0) (me.toNat + 1) (l.length - me.toNat - 1)) 0 me.toNat).1 else (lookN l (-1, 0) 0 l.length).1
theorem Ask_ok {o : Option Addr} {l : List Int} {cap : Nat} {w : World} (hL : (readRes o (l.map intV)).R w) (hLlt : ∀ x ∈ (readRes o (l.map intV)).fp, x < w.heap.size) (hll : l.length ≤ 1000) (me : Int) (hme : -10 ≤ me ∧ me ≤ 1000) :
    Calls Tryz.prog 58 #[.int .i64 me, .slice o l.length cap] w fun e w' => e = .returned (.int .i64 (askF me l)) ∧ Frm [] w w' := by
  have hI : Inv (cx 27 [] [] w) w [0] [⟨3, [.res (readRes o (l.map intV))], false⟩] := (Inv.nil w).consR (by simp) hL hLlt (by simp)
  refine calls_sm (cx 27 [] [] w) (vals := [.int .i64 me, .raw (.slice o l.length cap)]) mixed Tryz.func58 rfl rfl rfl hI rfl (st rfl ?_); conv => arg 3; whnf
  refine gg ?_
  by_cases h0 : me < 0
  · have hF : askF me l = (lookN l (lookN l (-1, 0) 0 l.length) 0 0).1 := by rw [askF, if_neg (by omega)]; rfl
    (repeat ((first | refine n_must rfl ?_ | refine n_chk (drawF_ok (by decide +kernel)) ?_ | refine n_same rfl ?_ | ((first | refine n_must ?_ ?_ | refine n_brT ?_ ?_); (focus (first | (simp [h0]; done) | (simp [h0]; omega) | (simp only [h0]; simp; done)))) | (refine n_brF ?_ ?_; (focus (first | (simp [h0]; done) | (simp [h0]; omega) | (simp only [h0]; simp; done)))) | refine n_must (by (with_reducible refine and_shape ?_) <;> kernel_rfl) ?_); (refine gs ?_)))
    refine n_call3 rfl fun bk bb bm => ?_
    refine n_upd2P 3 2 (.tup []) [.int .i64 (lookN l (-1, 0) 0 l.length).2] [.int .i64 (lookN l (-1, 0) 0 l.length).1] rfl rfl rfl rfl rfl rfl rfl rfl rfl rfl rfl rfl (fun _ w1 hp1 hI1 => look_ok (st0 := (-1, 0)) (hI1.blk_at hp1 1 rfl rfl rfl) (hI1.blk_at hp1 3 rfl rfl rfl) (hI1.blk_at hp1 2 rfl rfl rfl) (hI1.ne_at 1 3 (by decide) rfl (pre_at hp1 rfl) rfl rfl (pre_at hp1 rfl) rfl) (hI1.ne_at 1 2 (by decide) rfl (pre_at hp1 rfl) rfl rfl (pre_at hp1 rfl) rfl) (hI1.ne_at 3 2 (by decide) rfl (pre_at hp1 rfl) rfl rfl (pre_at hp1 rfl) rfl) (hI1.res 0 rfl rfl) (hI1.resLt 0 rfl rfl) (by
      intro x hx hm
      simp at hx
      rcases hx with rfl | rfl | rfl
      · exact hI1.ne_res 1 0 (by decide) rfl (pre_at hp1 rfl) rfl rfl rfl hm
      · exact hI1.ne_res 3 0 (by decide) rfl (pre_at hp1 rfl) rfl rfl rfl hm
      · exact hI1.ne_res 2 0 (by decide) rfl (pre_at hp1 rfl) rfl rfl rfl hm) 0 ((l.length : Int)) (l.length) (by omega) (by omega) (by omega) (by omega) (by omega)) ?_
    (refine gs ?_)
    refine gw ?_
    refine n_upd2P 3 2 (.tup []) [.int .i64 (lookN l (lookN l (-1, 0) 0 l.length) 0 0).2] [.int .i64 (lookN l (lookN l (-1, 0) 0 l.length) 0 0).1] rfl rfl rfl rfl rfl rfl rfl rfl rfl rfl rfl rfl (fun _ w1 hp1 hI1 => look_ok (st0 := (lookN l (-1, 0) 0 l.length)) (hI1.blk_at hp1 1 rfl rfl rfl) (hI1.blk_at hp1 3 rfl rfl rfl) (hI1.blk_at hp1 2 rfl rfl rfl) (hI1.ne_at 1 3 (by decide) rfl (pre_at hp1 rfl) rfl rfl (pre_at hp1 rfl) rfl) (hI1.ne_at 1 2 (by decide) rfl (pre_at hp1 rfl) rfl rfl (pre_at hp1 rfl) rfl) (hI1.ne_at 3 2 (by decide) rfl (pre_at hp1 rfl) rfl rfl (pre_at hp1 rfl) rfl) (hI1.res 0 rfl rfl) (hI1.resLt 0 rfl rfl) (by
      intro x hx hm
      simp at hx
      rcases hx with rfl | rfl | rfl
      · exact hI1.ne_res 1 0 (by decide) rfl (pre_at hp1 rfl) rfl rfl rfl hm
      · exact hI1.ne_res 3 0 (by decide) rfl (pre_at hp1 rfl) rfl rfl rfl hm
      · exact hI1.ne_res 2 0 (by decide) rfl (pre_at hp1 rfl) rfl rfl rfl hm) 0 (-1) (0) (by omega) (by omega) (by omega) (by omega) (by omega)) ?_
    (refine gs ?_)
    refine gw ?_
    rw [hF]
    exact n_ret0 rfl rfl fun ids' w' hp hI' => ⟨rfl, hI'.frm⟩
  · by_cases h1 : (l.length : Int) ≤ me
    · have hF : askF me l = (lookN l (lookN l (-1, 0) 0 l.length) 0 0).1 := by rw [askF, if_neg (by omega)]; rfl
      (repeat ((first | refine n_must rfl ?_ | refine n_chk (drawF_ok (by decide +kernel)) ?_ | refine n_same rfl ?_ | ((first | refine n_must ?_ ?_ | refine n_brT ?_ ?_); (focus (first | (simp [h0, h1]; done) | (simp [h0, h1]; omega) | (simp only [h0, h1]; simp; done)))) | (refine n_brF ?_ ?_; (focus (first | (simp [h0, h1]; done) | (simp [h0, h1]; omega) | (simp only [h0, h1]; simp; done)))) | refine n_must (by (with_reducible refine and_shape ?_) <;> kernel_rfl) ?_); (refine gs ?_)))
      refine n_call3 rfl fun bk bb bm => ?_
      refine n_upd2P 3 2 (.tup []) [.int .i64 (lookN l (-1, 0) 0 l.length).2] [.int .i64 (lookN l (-1, 0) 0 l.length).1] rfl rfl rfl rfl rfl rfl rfl rfl rfl rfl rfl rfl (fun _ w1 hp1 hI1 => look_ok (st0 := (-1, 0)) (hI1.blk_at hp1 1 rfl rfl rfl) (hI1.blk_at hp1 3 rfl rfl rfl) (hI1.blk_at hp1 2 rfl rfl rfl) (hI1.ne_at 1 3 (by decide) rfl (pre_at hp1 rfl) rfl rfl (pre_at hp1 rfl) rfl) (hI1.ne_at 1 2 (by decide) rfl (pre_at hp1 rfl) rfl rfl (pre_at hp1 rfl) rfl) (hI1.ne_at 3 2 (by decide) rfl (pre_at hp1 rfl) rfl rfl (pre_at hp1 rfl) rfl) (hI1.res 0 rfl rfl) (hI1.resLt 0 rfl rfl) (by
        intro x hx hm
        simp at hx
        rcases hx with rfl | rfl | rfl
        · exact hI1.ne_res 1 0 (by decide) rfl (pre_at hp1 rfl) rfl rfl rfl hm
        · exact hI1.ne_res 3 0 (by decide) rfl (pre_at hp1 rfl) rfl rfl rfl hm
        · exact hI1.ne_res 2 0 (by decide) rfl (pre_at hp1 rfl) rfl rfl rfl hm) 0 ((l.length : Int)) (l.length) (by omega) (by omega) (by omega) (by omega) (by omega)) ?_
      (refine gs ?_)
      refine gw ?_
      refine n_upd2P 3 2 (.tup []) [.int .i64 (lookN l (lookN l (-1, 0) 0 l.length) 0 0).2] [.int .i64 (lookN l (lookN l (-1, 0) 0 l.length) 0 0).1] rfl rfl rfl rfl rfl rfl rfl rfl rfl rfl rfl rfl (fun _ w1 hp1 hI1 => look_ok (st0 := (lookN l (-1, 0) 0 l.length)) (hI1.blk_at hp1 1 rfl rfl rfl) (hI1.blk_at hp1 3 rfl rfl rfl) (hI1.blk_at hp1 2 rfl rfl rfl) (hI1.ne_at 1 3 (by decide) rfl (pre_at hp1 rfl) rfl rfl (pre_at hp1 rfl) rfl) (hI1.ne_at 1 2 (by decide) rfl (pre_at hp1 rfl) rfl rfl (pre_at hp1 rfl) rfl) (hI1.ne_at 3 2 (by decide) rfl (pre_at hp1 rfl) rfl rfl (pre_at hp1 rfl) rfl) (hI1.res 0 rfl rfl) (hI1.resLt 0 rfl rfl) (by
        intro x hx hm
        simp at hx
        rcases hx with rfl | rfl | rfl
        · exact hI1.ne_res 1 0 (by decide) rfl (pre_at hp1 rfl) rfl rfl rfl hm
        · exact hI1.ne_res 3 0 (by decide) rfl (pre_at hp1 rfl) rfl rfl rfl hm
        · exact hI1.ne_res 2 0 (by decide) rfl (pre_at hp1 rfl) rfl rfl rfl hm) 0 (-1) (0) (by omega) (by omega) (by omega) (by omega) (by omega)) ?_
      (refine gs ?_)
      refine gw ?_
      rw [hF]
      exact n_ret0 rfl rfl fun ids' w' hp hI' => ⟨rfl, hI'.frm⟩
    · obtain ⟨m, rfl⟩ : ∃ m : Nat, me = (m : Int) := ⟨me.toNat, by omega⟩
      have hF : askF (m : Int) l = (lookN l (lookN l (-1, 0) (m + 1) (l.length - m - 1)) 0 m).1 := by rw [askF, if_pos (by omega)]; rfl
      have em : IntKind.i64.wrap ((m : Int) + 1) = ((m + 1 : Nat) : Int) := by rw [w64 (by omega) (by omega)]; simp
      (repeat ((first | refine n_must rfl ?_ | refine n_chk (drawF_ok (by decide +kernel)) ?_ | refine n_same rfl ?_ | ((first | refine n_must ?_ ?_ | refine n_brT ?_ ?_); (focus (first | (simp [h0, h1, em]; done) | (simp [h0, h1, em]; omega) | (simp only [h0, h1, em]; simp; done)))) | (refine n_brF ?_ ?_; (focus (first | (simp [h0, h1, em]; done) | (simp [h0, h1, em]; omega) | (simp only [h0, h1, em]; simp; done)))) | refine n_must (by (with_reducible refine and_shape ?_) <;> kernel_rfl) ?_); (refine gs ?_)))
      refine n_call3 rfl fun bk bb bm => ?_
      rw [em]
      refine n_upd2P 3 2 (.tup []) [.int .i64 (lookN l (-1, 0) (m + 1) (l.length - m - 1)).2] [.int .i64 (lookN l (-1, 0) (m + 1) (l.length - m - 1)).1] rfl rfl rfl rfl rfl rfl rfl rfl rfl rfl rfl rfl (fun _ w1 hp1 hI1 => look_ok (st0 := (-1, 0)) (hI1.blk_at hp1 1 rfl rfl rfl) (hI1.blk_at hp1 3 rfl rfl rfl) (hI1.blk_at hp1 2 rfl rfl rfl) (hI1.ne_at 1 3 (by decide) rfl (pre_at hp1 rfl) rfl rfl (pre_at hp1 rfl) rfl) (hI1.ne_at 1 2 (by decide) rfl (pre_at hp1 rfl) rfl rfl (pre_at hp1 rfl) rfl) (hI1.ne_at 3 2 (by decide) rfl (pre_at hp1 rfl) rfl rfl (pre_at hp1 rfl) rfl) (hI1.res 0 rfl rfl) (hI1.resLt 0 rfl rfl) (by
        intro x hx hm
        simp at hx
        rcases hx with rfl | rfl | rfl
        · exact hI1.ne_res 1 0 (by decide) rfl (pre_at hp1 rfl) rfl rfl rfl hm
        · exact hI1.ne_res 3 0 (by decide) rfl (pre_at hp1 rfl) rfl rfl rfl hm
        · exact hI1.ne_res 2 0 (by decide) rfl (pre_at hp1 rfl) rfl rfl rfl hm) (m + 1) ((l.length : Int)) ((l.length - m - 1)) (by omega) (by omega) (by omega) (by omega) (by omega)) ?_
      (refine gs ?_)
      refine gw ?_
      refine n_upd2P 3 2 (.tup []) [.int .i64 (lookN l (lookN l (-1, 0) (m + 1) (l.length - m - 1)) 0 m).2] [.int .i64 (lookN l (lookN l (-1, 0) (m + 1) (l.length - m - 1)) 0 m).1] rfl rfl rfl rfl rfl rfl rfl rfl rfl rfl rfl rfl (fun _ w1 hp1 hI1 => look_ok (st0 := (lookN l (-1, 0) (m + 1) (l.length - m - 1))) (hI1.blk_at hp1 1 rfl rfl rfl) (hI1.blk_at hp1 3 rfl rfl rfl) (hI1.blk_at hp1 2 rfl rfl rfl) (hI1.ne_at 1 3 (by decide) rfl (pre_at hp1 rfl) rfl rfl (pre_at hp1 rfl) rfl) (hI1.ne_at 1 2 (by decide) rfl (pre_at hp1 rfl) rfl rfl (pre_at hp1 rfl) rfl) (hI1.ne_at 3 2 (by decide) rfl (pre_at hp1 rfl) rfl rfl (pre_at hp1 rfl) rfl) (hI1.res 0 rfl rfl) (hI1.resLt 0 rfl rfl) (by
        intro x hx hm
        simp at hx
        rcases hx with rfl | rfl | rfl
        · exact hI1.ne_res 1 0 (by decide) rfl (pre_at hp1 rfl) rfl rfl rfl hm
        · exact hI1.ne_res 3 0 (by decide) rfl (pre_at hp1 rfl) rfl rfl rfl hm
        · exact hI1.ne_res 2 0 (by decide) rfl (pre_at hp1 rfl) rfl rfl rfl hm) 0 ((m : Int)) (m) (by omega) (by omega) (by omega) (by omega) (by omega)) ?_
      (refine gs ?_)
      refine gw ?_
      rw [hF]
      exact n_ret0 rfl rfl fun ids' w' hp hI' => ⟨rfl, hI'.frm⟩

/-! ### Give -/
def giveF (x y : Int) : Int := max 0 (min y (x - x.tdiv 2))
theorem Give_ok (x y : Int) (hx : 0 ≤ x ∧ x ≤ 1099511627776) (w : World) : Calls Tryz.prog 44 #[.int .i64 x, .int .i64 y] w fun e w' => e = .returned (.int .i64 (giveF x y)) ∧ Frm [] w w' := by
  have hI := Inv.nil (P := Tryz.prog) (N := 12) (S := []) (os := []) w
  have hq : x.tdiv 2 = x / 2 := Int.tdiv_eq_ediv_of_nonneg hx.1
  have e1 : IntKind.i64.wrap (x.tdiv 2) = x.tdiv 2 := w64 (by omega) (by omega)
  have e2 : IntKind.i64.wrap (x - x.tdiv 2) = x - x.tdiv 2 := w64 (by omega) (by omega)
  refine calls_sm (cx 12 [] [] w) (vals := [.int .i64 x, .int .i64 y]) mixed Tryz.func44 rfl rfl rfl hI rfl (st rfl ?_); conv => arg 3; whnf
  refine gw ?_
  refine n_ret0 rfl rfl fun ids' w' hp hI' => ⟨ret_int ?_, hI'.frm⟩
  rw [e1, e2]; rfl
theorem rGive_ok (x y : Int) (hx : 0 ≤ x ∧ x ≤ 1099511627776) (w : World) : Calls Tryz.prog 53 #[.int .i64 x, .int .i64 y] w fun e w' => e = .returned (.int .i64 (giveF x y)) ∧ Frm [] w w' := by
  have hI := Inv.nil (P := Tryz.prog) (N := 22) (S := []) (os := []) w
  have hq : x.tdiv 2 = x / 2 := Int.tdiv_eq_ediv_of_nonneg hx.1
  have hr : x.tmod 2 = x % 2 := Int.tmod_eq_emod_of_nonneg hx.1
  have e1 : IntKind.i64.wrap (x.tdiv 2) = x.tdiv 2 := w64 (by omega) (by omega)
  have e2 : IntKind.i64.wrap (x.tdiv 2 + x.tmod 2) = x.tdiv 2 + x.tmod 2 := w64 (by omega) (by omega)
  have hg : giveF x y = max 0 (min y (x - x / 2)) := by rw [giveF, hq]
  refine calls_sm (cx 22 [] [] w) (vals := [.int .i64 x, .int .i64 y]) mixed Tryz.func53 rfl rfl rfl hI rfl (st rfl ?_); conv => arg 3; whnf
  refine gg ?_
  by_cases h1 : x ≤ 0
  · (repeat ((first | refine n_must rfl ?_ | refine n_chk (drawF_ok (by decide +kernel)) ?_ | refine n_same rfl ?_ | ((first | refine n_must ?_ ?_ | refine n_brT ?_ ?_); (focus (first | (simp [h1]; done) | (simp [h1]; omega) | (simp only [h1]; simp; done)))) | (refine n_brF ?_ ?_; (focus (first | (simp [h1]; done) | (simp [h1]; omega) | (simp only [h1]; simp; done)))) | refine n_must (by (with_reducible refine and_shape ?_) <;> kernel_rfl) ?_); (refine gs ?_)))
    refine n_ret0 rfl rfl fun ids' w' hp hI' => ⟨ret_int ?_, hI'.frm⟩
    omega
  by_cases h2 : y ≤ 0
  · (repeat ((first | refine n_must rfl ?_ | refine n_chk (drawF_ok (by decide +kernel)) ?_ | refine n_same rfl ?_ | ((first | refine n_must ?_ ?_ | refine n_brT ?_ ?_); (focus (first | (simp [h1, h2]; done) | (simp [h1, h2]; omega) | (simp only [h1, h2]; simp; done)))) | (refine n_brF ?_ ?_; (focus (first | (simp [h1, h2]; done) | (simp [h1, h2]; omega) | (simp only [h1, h2]; simp; done)))) | refine n_must (by (with_reducible refine and_shape ?_) <;> kernel_rfl) ?_); (refine gs ?_)))
    refine n_ret0 rfl rfl fun ids' w' hp hI' => ⟨ret_int ?_, hI'.frm⟩
    omega
  by_cases h3 : y < x.tdiv 2 + x.tmod 2
  · (repeat ((first | refine n_must rfl ?_ | refine n_chk (drawF_ok (by decide +kernel)) ?_ | refine n_same rfl ?_ | ((first | refine n_must ?_ ?_ | refine n_brT ?_ ?_); (focus (first | (simp [h1, h2, e1, e2, h3]; done) | (simp [h1, h2, e1, e2, h3]; omega) | (simp only [h1, h2, e1, e2, h3]; simp; done)))) | (refine n_brF ?_ ?_; (focus (first | (simp [h1, h2, e1, e2, h3]; done) | (simp [h1, h2, e1, e2, h3]; omega) | (simp only [h1, h2, e1, e2, h3]; simp; done)))) | refine n_must (by (with_reducible refine and_shape ?_) <;> kernel_rfl) ?_); (refine gs ?_)))
    refine n_ret0 rfl rfl fun ids' w' hp hI' => ⟨ret_int ?_, hI'.frm⟩
    omega
  · (repeat ((first | refine n_must rfl ?_ | refine n_chk (drawF_ok (by decide +kernel)) ?_ | refine n_same rfl ?_ | ((first | refine n_must ?_ ?_ | refine n_brT ?_ ?_); (focus (first | (simp [h1, h2, e1, e2, h3]; done) | (simp [h1, h2, e1, e2, h3]; omega) | (simp only [h1, h2, e1, e2, h3]; simp; done)))) | (refine n_brF ?_ ?_; (focus (first | (simp [h1, h2, e1, e2, h3]; done) | (simp [h1, h2, e1, e2, h3]; omega) | (simp only [h1, h2, e1, e2, h3]; simp; done)))) | refine n_must (by (with_reducible refine and_shape ?_) <;> kernel_rfl) ?_); (refine gs ?_)))
    refine n_ret0 rfl rfl fun ids' w' hp hI' => ⟨ret_int ?_, hI'.frm⟩
    rw [e1, e2]
    omega
end
section
set_option maxRecDepth 100000
set_option linter.unusedSimpArgs false
set_option linter.unusedVariables false
set_option maxHeartbeats 4000000
open Go.RowKit

def askB (me : Int) (n : Nat) : Nat := if 0 ≤ me ∧ me < n then me.toNat + 1 else 0
def askS (me : Int) (l : List Int) (best : Int) (k : Nat) : Int :=
  let i := (askB me l.length + k) % l.length
  if (i : Int) ≠ me ∧ 0 < l.getD i 0 ∧ (best < 0 ∨ l.getD best.toNat 0 < l.getD i 0) then (i : Int) else best
def askN (me : Int) (l : List Int) (k : Nat) : Int := (List.range k).foldl (askS me l) (-1)
theorem askN_next (me : Int) (l : List Int) (k : Nat) : askN me l (k + 1) = askS me l (askN me l k) k := by
  unfold askN; rw [List.range_succ]; simp
theorem askN_lt {me : Int} {l : List Int} : ∀ k, k ≤ l.length → -1 ≤ askN me l k ∧ askN me l k < l.length
  | 0, _ => by simp [askN]; omega
  | k + 1, h => by
    have ih := askN_lt (me := me) (l := l) k (by omega)
    rw [askN_next]
    unfold askS
    dsimp only
    split
    · have := Nat.mod_lt (askB me l.length + k) (show 0 < l.length by omega); omega
    · exact ih
/-- The best so far, in both tongues. -/
def AskRel (l : List Int) (best : Int) (s : Int × Int) : Prop := s.1 = best ∧ -1 ≤ best ∧ s.2 = (if best < 0 then 0 else l.getD best.toNat 0) ∧ 0 ≤ s.2
theorem askRel_step {me : Int} {l : List Int} {best : Int} {s : Int × Int} {k i : Nat} (h : AskRel l best s) (hi : (askB me l.length + k) % l.length = i) (hne : (i : Int) ≠ me) : AskRel l (askS me l best k) (lookS l s i) := by
  obtain ⟨b, m⟩ := s
  obtain ⟨h1, h2, h3, h4⟩ := h
  dsimp only at h1 h3 h4
  subst h1
  unfold askS lookS
  dsimp only
  rw [hi]
  by_cases hb : b < 0
  · rw [if_pos hb] at h3
    subst h3
    by_cases hx : 0 < l.getD i 0
    · rw [if_pos hx, if_pos ⟨hne, hx, .inl hb⟩]
      refine ⟨rfl, by omega, ?_, by dsimp only; omega⟩
      dsimp only
      rw [if_neg (by omega)]; simp
    · rw [if_neg hx, if_neg (by rintro ⟨_, h, _⟩; exact hx h)]
      exact ⟨rfl, h2, by dsimp only; rw [if_pos hb], h4⟩
  · rw [if_neg hb] at h3
    by_cases hx : m < l.getD i 0
    · rw [if_pos hx, if_pos ⟨hne, by omega, .inr (by rw [← h3]; exact hx)⟩]
      refine ⟨rfl, by omega, ?_, by dsimp only; omega⟩
      dsimp only
      rw [if_neg (by omega)]; simp
    · rw [if_neg hx, if_neg (by rintro ⟨_, _, h | h⟩; exact hb h; rw [← h3] at h; exact hx h)]
      exact ⟨rfl, h2, by dsimp only; rw [if_neg hb]; exact h3, h4⟩
theorem ask_eq (me : Int) (l : List Int) : askN me l l.length = askF me l := by
  unfold askF
  by_cases hv : 0 ≤ me ∧ me < l.length
  · rw [if_pos hv]
    obtain ⟨m, rfl⟩ : ∃ m : Nat, me = (m : Int) := ⟨me.toNat, by omega⟩
    have hB : askB (m : Int) l.length = m + 1 := by unfold askB; rw [if_pos hv]; simp
    have hA : ∀ k, k ≤ l.length - m - 1 → AskRel l (askN (m : Int) l k) (lookN l (-1, 0) (m + 1) k) := by
      intro k
      induction k with
      | zero => intro _; exact ⟨rfl, by simp [askN], by simp [askN, lookN], by simp [lookN]⟩
      | succ k ih =>
        intro hk
        rw [askN_next, lookN_next]
        refine askRel_step (ih (by omega)) ?_ (by omega)
        rw [hB, Nat.mod_eq_of_lt (by omega)]
    have hC : ∀ j, j ≤ m → AskRel l (askN (m : Int) l (l.length - m - 1 + j)) (lookN l (lookN l (-1, 0) (m + 1) (l.length - m - 1)) 0 j) := by
      intro j
      induction j with
      | zero => intro _; have := hA _ (Nat.le_refl _); simpa [lookN] using this
      | succ j ih =>
        intro hj
        rw [← Nat.add_assoc, askN_next, lookN_next]
        refine askRel_step (ih (by omega)) ?_ (by omega)
        rw [hB, show m + 1 + (l.length - m - 1 + j) = j + l.length by omega, Nat.add_mod_right, Nat.mod_eq_of_lt (by omega)]
        simp
    have h1 := (hC m (Nat.le_refl _)).1
    have e : l.length = l.length - m - 1 + m + 1 := by omega
    rw [show askN (m : Int) l l.length = askN (m : Int) l (l.length - m - 1 + m + 1) by rw [← e], askN_next]
    simp only [Int.toNat_natCast]
    rw [h1]
    unfold askS
    dsimp only
    rw [if_neg]
    rintro ⟨h, _⟩
    apply h
    rw [hB, show m + 1 + (l.length - m - 1 + m) = m + l.length by omega, Nat.add_mod_right, Nat.mod_eq_of_lt (by omega)]
  · rw [if_neg hv]
    have hB : askB me l.length = 0 := by unfold askB; rw [if_neg hv]
    have hA : ∀ k, k ≤ l.length → AskRel l (askN me l k) (lookN l (-1, 0) 0 k) := by
      intro k
      induction k with
      | zero => intro _; exact ⟨rfl, by simp [askN], by simp [askN, lookN], by simp [lookN]⟩
      | succ k ih =>
        intro hk
        rw [askN_next, lookN_next]
        refine askRel_step (ih (by omega)) ?_ ?_
        · rw [hB, Nat.zero_add, Nat.mod_eq_of_lt (by omega)]
        · intro e; exact hv (by omega)
    exact (hA _ (Nat.le_refl _)).1.symm

theorem rAsk_ok {o : Option Addr} {l : List Int} {cap : Nat} {w : World} (hL : (readRes o (l.map intV)).R w) (hLlt : ∀ x ∈ (readRes o (l.map intV)).fp, x < w.heap.size) (hll : l.length ≤ 1000) (me : Int) (hme : -10 ≤ me ∧ me ≤ 1000) :
    Calls Tryz.prog 66 #[.int .i64 me, .slice o l.length cap] w fun e w' => e = .returned (.int .i64 (askF me l)) ∧ Frm [] w w' := by
  have hI : Inv (cx 58 [] [] w) w [0] [⟨3, [.res (readRes o (l.map intV))], false⟩] := (Inv.nil w).consR (by simp) hL hLlt (by simp)
  refine calls_sm (cx 58 [] [] w) (vals := [.int .i64 me, .raw (.slice o l.length cap)]) mixed Tryz.func66 rfl rfl rfl hI rfl (st rfl ?_); conv => arg 3; whnf
  refine gg ?_
  by_cases h0 : me < 0
  · have hB : askB me l.length = 0 := by unfold askB; rw [if_neg (by omega)]
    (repeat ((first | refine n_must rfl ?_ | refine n_chk (drawF_ok (by decide +kernel)) ?_ | refine n_same rfl ?_ | ((first | refine n_must ?_ ?_ | refine n_brT ?_ ?_); (focus (first | (simp [h0]; done) | (simp [h0]; omega) | (simp only [h0]; simp; done)))) | (refine n_brF ?_ ?_; (focus (first | (simp [h0]; done) | (simp [h0]; omega) | (simp only [h0]; simp; done)))) | refine n_must (by (with_reducible refine and_shape ?_) <;> kernel_rfl) ?_); (refine gs ?_)))
    refine n_loop (σ := Nat) (fun k => [(0, .int .i64 me), (1, .raw (.slice o l.length cap)), (5, .int .i64 (l.length : Nat)), (6, .int .i64 (0 : Nat)), (7, .int .i64 (askN me l k)), (8, .int .i64 (k : Nat))]) (fun _ => [⟨3, [.res (readRes o (l.map intV))], false⟩]) (fun k => k ≤ l.length) (fun k => l.length - k) 0 mixed (by omega) (fun _ _ => rfl) rfl (by (repeat (first | exact trivial | refine ⟨⟨rfl, rfl⟩, ?_⟩ | refine ⟨⟨rfl, rfl⟩, ?_⟩))) (fun s _ => ⟨by (repeat (first | exact trivial | refine ⟨⟨_, rfl⟩, ?_⟩)), by (repeat (first | exact trivial | refine ⟨⟨_, rfl⟩, ?_⟩))⟩) fun k hk => ?_
    (refine gs ?_)
    by_cases hlt : k < l.length
    · have ek : IntKind.i64.wrap ((k : Int) + 1) = ((k + 1 : Nat) : Int) := by rw [w64 (by omega) (by omega)]; simp
      obtain ⟨a, rfl⟩ := ints_some hL (by omega)
      have hnx := askN_next me l k
      have hbl := askN_lt (me := me) (l := l) k (by omega)
      generalize askN me l k = best at hnx hbl
      have hnz : ((l.length : Nat) : Int) ≠ 0 := by omega
      have e1 : IntKind.i64.wrap (((0 : Nat) : Int) + (k : Int)) = ((0 + k : Nat) : Int) := (w64 (by omega) (by omega)).trans (by simp)
      have e2 : ((0 + k : Nat) : Int).tmod (l.length : Nat) = ((0 + k) % l.length : Nat) := Int.ofNat_tmod _ _
      have hiq : (0 + k) % l.length < l.length := Nat.mod_lt _ (by omega)
      have hS : askS me l best k = if (((0 + k) % l.length : Nat) : Int) ≠ me ∧ 0 < l.getD ((0 + k) % l.length) 0 ∧ (best < 0 ∨ l.getD best.toNat 0 < l.getD ((0 + k) % l.length) 0) then (((0 + k) % l.length : Nat) : Int) else best := by unfold askS; rw [hB]
      refine gw ?_
      refine n_must (decide_eq_true hnz) ?_
      (refine gs ?_)
      refine gw ?_
      rw [e1, e2]
      generalize (0 + k) % l.length = i at hiq hS ⊢
      have hx : l[i]? = some l[i] := List.getElem?_eq_getElem _
      have hd : l.getD i 0 = l[i] := by simp [List.getD, hx]
      generalize l[i] = x at hx hd
      rw [hd] at hS
      by_cases hne : (i : Int) = me
      · rw [if_neg (by rintro ⟨h, _⟩; exact h hne)] at hS
        first
        | exfalso; omega
        | (repeat ((first | refine n_must rfl ?_ | refine n_chk (drawF_ok (by decide +kernel)) ?_ | refine n_same rfl ?_ | ((first | refine n_must ?_ ?_ | refine n_brT ?_ ?_); (focus (first | (simp [hne]; done) | (simp [hne]; omega) | (simp only [hne]; simp; done)))) | (refine n_brF ?_ ?_; (focus (first | (simp [hne]; done) | (simp [hne]; omega) | (simp only [hne]; simp; done)))) | refine n_must (by (with_reducible refine and_shape ?_) <;> kernel_rfl) ?_); (refine gs ?_)))
          refine n_again ⟨k + 1, by omega, by omega, ?_, ⟨_, rfl⟩⟩
          rw [hnx, hS]; exact (by (repeat (first | exact trivial | refine ⟨⟨rfl, rfl⟩, ?_⟩ | refine ⟨⟨rfl, congrArg (SV.int .i64) ek⟩, ?_⟩)))
      · (repeat ((first | refine n_must rfl ?_ | refine n_chk (drawF_ok (by decide +kernel)) ?_ | refine n_same rfl ?_ | ((first | refine n_must ?_ ?_ | refine n_brT ?_ ?_); (focus (first | (simp [hne]; done) | (simp [hne]; omega) | (simp only [hne]; simp; done)))) | (refine n_brF ?_ ?_; (focus (first | (simp [hne]; done) | (simp [hne]; omega) | (simp only [hne]; simp; done)))) | refine n_must (by (with_reducible refine and_shape ?_) <;> kernel_rfl) ?_); (refine gs ?_)))
        refine n_ldDI (.int .i64 x) rfl rfl (fun _ w1 _ hI1 => load_cell aggInt (ints_cell (hI1.res 0 rfl rfl) hx (by simp))) ?_
        (refine gs ?_)
        by_cases hx0 : 0 < x
        · (repeat ((first | refine n_must rfl ?_ | refine n_chk (drawF_ok (by decide +kernel)) ?_ | refine n_same rfl ?_ | ((first | refine n_must ?_ ?_ | refine n_brT ?_ ?_); (focus (first | (simp [hx0]; done) | (simp [hx0]; omega) | (simp only [hx0]; simp; done)))) | (refine n_brF ?_ ?_; (focus (first | (simp [hx0]; done) | (simp [hx0]; omega) | (simp only [hx0]; simp; done)))) | refine n_must (by (with_reducible refine and_shape ?_) <;> kernel_rfl) ?_); (refine gs ?_)))
          by_cases hb0 : best < 0
          · rw [if_pos ⟨hne, hx0, .inl hb0⟩] at hS
            (repeat ((first | refine n_must rfl ?_ | refine n_chk (drawF_ok (by decide +kernel)) ?_ | refine n_same rfl ?_ | ((first | refine n_must ?_ ?_ | refine n_brT ?_ ?_); (focus (first | (simp [hb0]; done) | (simp [hb0]; omega) | (simp only [hb0]; simp; done)))) | (refine n_brF ?_ ?_; (focus (first | (simp [hb0]; done) | (simp [hb0]; omega) | (simp only [hb0]; simp; done)))) | refine n_must (by (with_reducible refine and_shape ?_) <;> kernel_rfl) ?_); (refine gs ?_)))
            refine n_again ⟨k + 1, by omega, by omega, ?_, ⟨_, rfl⟩⟩
            rw [hnx, hS]; exact (by (repeat (first | exact trivial | refine ⟨⟨rfl, rfl⟩, ?_⟩ | refine ⟨⟨rfl, congrArg (SV.int .i64) ek⟩, ?_⟩)))
          · have hbn : best.toNat < l.length := by omega
            have hy : l[best.toNat]? = some l[best.toNat] := List.getElem?_eq_getElem _
            have hyd : l.getD best.toNat 0 = l[best.toNat] := by simp [List.getD, hy]
            generalize l[best.toNat] = y at hy hyd
            rw [hyd] at hS
            (repeat ((first | refine n_must rfl ?_ | refine n_chk (drawF_ok (by decide +kernel)) ?_ | refine n_same rfl ?_ | ((first | refine n_must ?_ ?_ | refine n_brT ?_ ?_); (focus (first | (simp [hb0]; done) | (simp [hb0]; omega) | (simp only [hb0]; simp; done)))) | (refine n_brF ?_ ?_; (focus (first | (simp [hb0]; done) | (simp [hb0]; omega) | (simp only [hb0]; simp; done)))) | refine n_must (by (with_reducible refine and_shape ?_) <;> kernel_rfl) ?_); (refine gs ?_)))
            refine n_ldDI (.int .i64 x) rfl rfl (fun _ w1 _ hI1 => load_cell aggInt (ints_cell (hI1.res 0 rfl rfl) hx (by simp))) ?_
            (refine gs ?_)
            refine gw ?_
            refine n_ldDI (.int .i64 y) rfl rfl (fun _ w1 _ hI1 => load_cell aggInt (ints_cell (hI1.res 0 rfl rfl) hy (by simp))) ?_
            (refine gs ?_)
            by_cases hyx : y < x
            · rw [if_pos ⟨hne, hx0, .inr hyx⟩] at hS
              (repeat ((first | refine n_must rfl ?_ | refine n_chk (drawF_ok (by decide +kernel)) ?_ | refine n_same rfl ?_ | ((first | refine n_must ?_ ?_ | refine n_brT ?_ ?_); (focus (first | (simp [hyx]; done) | (simp [hyx]; omega) | (simp only [hyx]; simp; done)))) | (refine n_brF ?_ ?_; (focus (first | (simp [hyx]; done) | (simp [hyx]; omega) | (simp only [hyx]; simp; done)))) | refine n_must (by (with_reducible refine and_shape ?_) <;> kernel_rfl) ?_); (refine gs ?_)))
              refine n_again ⟨k + 1, by omega, by omega, ?_, ⟨_, rfl⟩⟩
              rw [hnx, hS]; exact (by (repeat (first | exact trivial | refine ⟨⟨rfl, rfl⟩, ?_⟩ | refine ⟨⟨rfl, congrArg (SV.int .i64) ek⟩, ?_⟩)))
            · rw [if_neg (by rintro ⟨_, _, h | h⟩; exact hb0 h; exact hyx h)] at hS
              (repeat ((first | refine n_must rfl ?_ | refine n_chk (drawF_ok (by decide +kernel)) ?_ | refine n_same rfl ?_ | ((first | refine n_must ?_ ?_ | refine n_brT ?_ ?_); (focus (first | (simp [hyx]; done) | (simp [hyx]; omega) | (simp only [hyx]; simp; done)))) | (refine n_brF ?_ ?_; (focus (first | (simp [hyx]; done) | (simp [hyx]; omega) | (simp only [hyx]; simp; done)))) | refine n_must (by (with_reducible refine and_shape ?_) <;> kernel_rfl) ?_); (refine gs ?_)))
              refine n_again ⟨k + 1, by omega, by omega, ?_, ⟨_, rfl⟩⟩
              rw [hnx, hS]; exact (by (repeat (first | exact trivial | refine ⟨⟨rfl, rfl⟩, ?_⟩ | refine ⟨⟨rfl, congrArg (SV.int .i64) ek⟩, ?_⟩)))
        · rw [if_neg (by rintro ⟨_, h, _⟩; exact hx0 h)] at hS
          (repeat ((first | refine n_must rfl ?_ | refine n_chk (drawF_ok (by decide +kernel)) ?_ | refine n_same rfl ?_ | ((first | refine n_must ?_ ?_ | refine n_brT ?_ ?_); (focus (first | (simp [hx0]; done) | (simp [hx0]; omega) | (simp only [hx0]; simp; done)))) | (refine n_brF ?_ ?_; (focus (first | (simp [hx0]; done) | (simp [hx0]; omega) | (simp only [hx0]; simp; done)))) | refine n_must (by (with_reducible refine and_shape ?_) <;> kernel_rfl) ?_); (refine gs ?_)))
          refine n_again ⟨k + 1, by omega, by omega, ?_, ⟨_, rfl⟩⟩
          rw [hnx, hS]; exact (by (repeat (first | exact trivial | refine ⟨⟨rfl, rfl⟩, ?_⟩ | refine ⟨⟨rfl, congrArg (SV.int .i64) ek⟩, ?_⟩)))
    · obtain rfl : k = l.length := by omega
      refine gw ?_
      refine n_exit rfl ?_
      (refine gs ?_)
      refine gw ?_
      rw [ask_eq]
      exact n_ret0 rfl rfl fun ids' w' hp hI' => ⟨rfl, hI'.frm⟩
  · by_cases h1 : me < (l.length : Int)
    · have hB : askB me l.length = me.toNat + 1 := by unfold askB; rw [if_pos (by omega)]
      have em : IntKind.i64.wrap (me + 1) = ((me.toNat + 1 : Nat) : Int) := by rw [w64 (by omega) (by omega)]; omega
      (repeat ((first | refine n_must rfl ?_ | refine n_chk (drawF_ok (by decide +kernel)) ?_ | refine n_same rfl ?_ | ((first | refine n_must ?_ ?_ | refine n_brT ?_ ?_); (focus (first | (simp [h0, h1]; done) | (simp [h0, h1]; omega) | (simp only [h0, h1]; simp; done)))) | (refine n_brF ?_ ?_; (focus (first | (simp [h0, h1]; done) | (simp [h0, h1]; omega) | (simp only [h0, h1]; simp; done)))) | refine n_must (by (with_reducible refine and_shape ?_) <;> kernel_rfl) ?_); (refine gs ?_)))
      refine n_loop (σ := Nat) (fun k => [(0, .int .i64 me), (1, .raw (.slice o l.length cap)), (5, .int .i64 (l.length : Nat)), (6, .int .i64 ((me.toNat + 1) : Nat)), (7, .int .i64 (askN me l k)), (8, .int .i64 (k : Nat))]) (fun _ => [⟨3, [.res (readRes o (l.map intV))], false⟩]) (fun k => k ≤ l.length) (fun k => l.length - k) 0 mixed (by omega) (fun _ _ => rfl) rfl (by (repeat (first | exact trivial | refine ⟨⟨rfl, rfl⟩, ?_⟩ | refine ⟨⟨rfl, congrArg (SV.int .i64) em⟩, ?_⟩))) (fun s _ => ⟨by (repeat (first | exact trivial | refine ⟨⟨_, rfl⟩, ?_⟩)), by (repeat (first | exact trivial | refine ⟨⟨_, rfl⟩, ?_⟩))⟩) fun k hk => ?_
      (refine gs ?_)
      by_cases hlt : k < l.length
      · have ek : IntKind.i64.wrap ((k : Int) + 1) = ((k + 1 : Nat) : Int) := by rw [w64 (by omega) (by omega)]; simp
        obtain ⟨a, rfl⟩ := ints_some hL (by omega)
        have hnx := askN_next me l k
        have hbl := askN_lt (me := me) (l := l) k (by omega)
        generalize askN me l k = best at hnx hbl
        have hnz : ((l.length : Nat) : Int) ≠ 0 := by omega
        have e1 : IntKind.i64.wrap ((((me.toNat + 1) : Nat) : Int) + (k : Int)) = (((me.toNat + 1) + k : Nat) : Int) := (w64 (by omega) (by omega)).trans (by simp)
        have e2 : (((me.toNat + 1) + k : Nat) : Int).tmod (l.length : Nat) = (((me.toNat + 1) + k) % l.length : Nat) := Int.ofNat_tmod _ _
        have hiq : ((me.toNat + 1) + k) % l.length < l.length := Nat.mod_lt _ (by omega)
        have hS : askS me l best k = if ((((me.toNat + 1) + k) % l.length : Nat) : Int) ≠ me ∧ 0 < l.getD (((me.toNat + 1) + k) % l.length) 0 ∧ (best < 0 ∨ l.getD best.toNat 0 < l.getD (((me.toNat + 1) + k) % l.length) 0) then ((((me.toNat + 1) + k) % l.length : Nat) : Int) else best := by unfold askS; rw [hB]
        refine gw ?_
        refine n_must (decide_eq_true hnz) ?_
        (refine gs ?_)
        refine gw ?_
        rw [e1, e2]
        generalize ((me.toNat + 1) + k) % l.length = i at hiq hS ⊢
        have hx : l[i]? = some l[i] := List.getElem?_eq_getElem _
        have hd : l.getD i 0 = l[i] := by simp [List.getD, hx]
        generalize l[i] = x at hx hd
        rw [hd] at hS
        by_cases hne : (i : Int) = me
        · rw [if_neg (by rintro ⟨h, _⟩; exact h hne)] at hS
          first
          | exfalso; omega
          | (repeat ((first | refine n_must rfl ?_ | refine n_chk (drawF_ok (by decide +kernel)) ?_ | refine n_same rfl ?_ | ((first | refine n_must ?_ ?_ | refine n_brT ?_ ?_); (focus (first | (simp [hne]; done) | (simp [hne]; omega) | (simp only [hne]; simp; done)))) | (refine n_brF ?_ ?_; (focus (first | (simp [hne]; done) | (simp [hne]; omega) | (simp only [hne]; simp; done)))) | refine n_must (by (with_reducible refine and_shape ?_) <;> kernel_rfl) ?_); (refine gs ?_)))
            refine n_again ⟨k + 1, by omega, by omega, ?_, ⟨_, rfl⟩⟩
            rw [hnx, hS]; exact (by (repeat (first | exact trivial | refine ⟨⟨rfl, rfl⟩, ?_⟩ | refine ⟨⟨rfl, congrArg (SV.int .i64) ek⟩, ?_⟩)))
        · (repeat ((first | refine n_must rfl ?_ | refine n_chk (drawF_ok (by decide +kernel)) ?_ | refine n_same rfl ?_ | ((first | refine n_must ?_ ?_ | refine n_brT ?_ ?_); (focus (first | (simp [hne]; done) | (simp [hne]; omega) | (simp only [hne]; simp; done)))) | (refine n_brF ?_ ?_; (focus (first | (simp [hne]; done) | (simp [hne]; omega) | (simp only [hne]; simp; done)))) | refine n_must (by (with_reducible refine and_shape ?_) <;> kernel_rfl) ?_); (refine gs ?_)))
          refine n_ldDI (.int .i64 x) rfl rfl (fun _ w1 _ hI1 => load_cell aggInt (ints_cell (hI1.res 0 rfl rfl) hx (by simp))) ?_
          (refine gs ?_)
          by_cases hx0 : 0 < x
          · (repeat ((first | refine n_must rfl ?_ | refine n_chk (drawF_ok (by decide +kernel)) ?_ | refine n_same rfl ?_ | ((first | refine n_must ?_ ?_ | refine n_brT ?_ ?_); (focus (first | (simp [hx0]; done) | (simp [hx0]; omega) | (simp only [hx0]; simp; done)))) | (refine n_brF ?_ ?_; (focus (first | (simp [hx0]; done) | (simp [hx0]; omega) | (simp only [hx0]; simp; done)))) | refine n_must (by (with_reducible refine and_shape ?_) <;> kernel_rfl) ?_); (refine gs ?_)))
            by_cases hb0 : best < 0
            · rw [if_pos ⟨hne, hx0, .inl hb0⟩] at hS
              (repeat ((first | refine n_must rfl ?_ | refine n_chk (drawF_ok (by decide +kernel)) ?_ | refine n_same rfl ?_ | ((first | refine n_must ?_ ?_ | refine n_brT ?_ ?_); (focus (first | (simp [hb0]; done) | (simp [hb0]; omega) | (simp only [hb0]; simp; done)))) | (refine n_brF ?_ ?_; (focus (first | (simp [hb0]; done) | (simp [hb0]; omega) | (simp only [hb0]; simp; done)))) | refine n_must (by (with_reducible refine and_shape ?_) <;> kernel_rfl) ?_); (refine gs ?_)))
              refine n_again ⟨k + 1, by omega, by omega, ?_, ⟨_, rfl⟩⟩
              rw [hnx, hS]; exact (by (repeat (first | exact trivial | refine ⟨⟨rfl, rfl⟩, ?_⟩ | refine ⟨⟨rfl, congrArg (SV.int .i64) ek⟩, ?_⟩)))
            · have hbn : best.toNat < l.length := by omega
              have hy : l[best.toNat]? = some l[best.toNat] := List.getElem?_eq_getElem _
              have hyd : l.getD best.toNat 0 = l[best.toNat] := by simp [List.getD, hy]
              generalize l[best.toNat] = y at hy hyd
              rw [hyd] at hS
              (repeat ((first | refine n_must rfl ?_ | refine n_chk (drawF_ok (by decide +kernel)) ?_ | refine n_same rfl ?_ | ((first | refine n_must ?_ ?_ | refine n_brT ?_ ?_); (focus (first | (simp [hb0]; done) | (simp [hb0]; omega) | (simp only [hb0]; simp; done)))) | (refine n_brF ?_ ?_; (focus (first | (simp [hb0]; done) | (simp [hb0]; omega) | (simp only [hb0]; simp; done)))) | refine n_must (by (with_reducible refine and_shape ?_) <;> kernel_rfl) ?_); (refine gs ?_)))
              refine n_ldDI (.int .i64 x) rfl rfl (fun _ w1 _ hI1 => load_cell aggInt (ints_cell (hI1.res 0 rfl rfl) hx (by simp))) ?_
              (refine gs ?_)
              refine gw ?_
              refine n_ldDI (.int .i64 y) rfl rfl (fun _ w1 _ hI1 => load_cell aggInt (ints_cell (hI1.res 0 rfl rfl) hy (by simp))) ?_
              (refine gs ?_)
              by_cases hyx : y < x
              · rw [if_pos ⟨hne, hx0, .inr hyx⟩] at hS
                (repeat ((first | refine n_must rfl ?_ | refine n_chk (drawF_ok (by decide +kernel)) ?_ | refine n_same rfl ?_ | ((first | refine n_must ?_ ?_ | refine n_brT ?_ ?_); (focus (first | (simp [hyx]; done) | (simp [hyx]; omega) | (simp only [hyx]; simp; done)))) | (refine n_brF ?_ ?_; (focus (first | (simp [hyx]; done) | (simp [hyx]; omega) | (simp only [hyx]; simp; done)))) | refine n_must (by (with_reducible refine and_shape ?_) <;> kernel_rfl) ?_); (refine gs ?_)))
                refine n_again ⟨k + 1, by omega, by omega, ?_, ⟨_, rfl⟩⟩
                rw [hnx, hS]; exact (by (repeat (first | exact trivial | refine ⟨⟨rfl, rfl⟩, ?_⟩ | refine ⟨⟨rfl, congrArg (SV.int .i64) ek⟩, ?_⟩)))
              · rw [if_neg (by rintro ⟨_, _, h | h⟩; exact hb0 h; exact hyx h)] at hS
                (repeat ((first | refine n_must rfl ?_ | refine n_chk (drawF_ok (by decide +kernel)) ?_ | refine n_same rfl ?_ | ((first | refine n_must ?_ ?_ | refine n_brT ?_ ?_); (focus (first | (simp [hyx]; done) | (simp [hyx]; omega) | (simp only [hyx]; simp; done)))) | (refine n_brF ?_ ?_; (focus (first | (simp [hyx]; done) | (simp [hyx]; omega) | (simp only [hyx]; simp; done)))) | refine n_must (by (with_reducible refine and_shape ?_) <;> kernel_rfl) ?_); (refine gs ?_)))
                refine n_again ⟨k + 1, by omega, by omega, ?_, ⟨_, rfl⟩⟩
                rw [hnx, hS]; exact (by (repeat (first | exact trivial | refine ⟨⟨rfl, rfl⟩, ?_⟩ | refine ⟨⟨rfl, congrArg (SV.int .i64) ek⟩, ?_⟩)))
          · rw [if_neg (by rintro ⟨_, h, _⟩; exact hx0 h)] at hS
            (repeat ((first | refine n_must rfl ?_ | refine n_chk (drawF_ok (by decide +kernel)) ?_ | refine n_same rfl ?_ | ((first | refine n_must ?_ ?_ | refine n_brT ?_ ?_); (focus (first | (simp [hx0]; done) | (simp [hx0]; omega) | (simp only [hx0]; simp; done)))) | (refine n_brF ?_ ?_; (focus (first | (simp [hx0]; done) | (simp [hx0]; omega) | (simp only [hx0]; simp; done)))) | refine n_must (by (with_reducible refine and_shape ?_) <;> kernel_rfl) ?_); (refine gs ?_)))
            refine n_again ⟨k + 1, by omega, by omega, ?_, ⟨_, rfl⟩⟩
            rw [hnx, hS]; exact (by (repeat (first | exact trivial | refine ⟨⟨rfl, rfl⟩, ?_⟩ | refine ⟨⟨rfl, congrArg (SV.int .i64) ek⟩, ?_⟩)))
      · obtain rfl : k = l.length := by omega
        refine gw ?_
        refine n_exit rfl ?_
        (refine gs ?_)
        refine gw ?_
        rw [ask_eq]
        exact n_ret0 rfl rfl fun ids' w' hp hI' => ⟨rfl, hI'.frm⟩
    · have hB : askB me l.length = 0 := by unfold askB; rw [if_neg (by omega)]
      (repeat ((first | refine n_must rfl ?_ | refine n_chk (drawF_ok (by decide +kernel)) ?_ | refine n_same rfl ?_ | ((first | refine n_must ?_ ?_ | refine n_brT ?_ ?_); (focus (first | (simp [h0, h1]; done) | (simp [h0, h1]; omega) | (simp only [h0, h1]; simp; done)))) | (refine n_brF ?_ ?_; (focus (first | (simp [h0, h1]; done) | (simp [h0, h1]; omega) | (simp only [h0, h1]; simp; done)))) | refine n_must (by (with_reducible refine and_shape ?_) <;> kernel_rfl) ?_); (refine gs ?_)))
      refine n_loop (σ := Nat) (fun k => [(0, .int .i64 me), (1, .raw (.slice o l.length cap)), (5, .int .i64 (l.length : Nat)), (6, .int .i64 (0 : Nat)), (7, .int .i64 (askN me l k)), (8, .int .i64 (k : Nat))]) (fun _ => [⟨3, [.res (readRes o (l.map intV))], false⟩]) (fun k => k ≤ l.length) (fun k => l.length - k) 0 mixed (by omega) (fun _ _ => rfl) rfl (by (repeat (first | exact trivial | refine ⟨⟨rfl, rfl⟩, ?_⟩ | refine ⟨⟨rfl, rfl⟩, ?_⟩))) (fun s _ => ⟨by (repeat (first | exact trivial | refine ⟨⟨_, rfl⟩, ?_⟩)), by (repeat (first | exact trivial | refine ⟨⟨_, rfl⟩, ?_⟩))⟩) fun k hk => ?_
      (refine gs ?_)
      by_cases hlt : k < l.length
      · have ek : IntKind.i64.wrap ((k : Int) + 1) = ((k + 1 : Nat) : Int) := by rw [w64 (by omega) (by omega)]; simp
        obtain ⟨a, rfl⟩ := ints_some hL (by omega)
        have hnx := askN_next me l k
        have hbl := askN_lt (me := me) (l := l) k (by omega)
        generalize askN me l k = best at hnx hbl
        have hnz : ((l.length : Nat) : Int) ≠ 0 := by omega
        have e1 : IntKind.i64.wrap (((0 : Nat) : Int) + (k : Int)) = ((0 + k : Nat) : Int) := (w64 (by omega) (by omega)).trans (by simp)
        have e2 : ((0 + k : Nat) : Int).tmod (l.length : Nat) = ((0 + k) % l.length : Nat) := Int.ofNat_tmod _ _
        have hiq : (0 + k) % l.length < l.length := Nat.mod_lt _ (by omega)
        have hS : askS me l best k = if (((0 + k) % l.length : Nat) : Int) ≠ me ∧ 0 < l.getD ((0 + k) % l.length) 0 ∧ (best < 0 ∨ l.getD best.toNat 0 < l.getD ((0 + k) % l.length) 0) then (((0 + k) % l.length : Nat) : Int) else best := by unfold askS; rw [hB]
        refine gw ?_
        refine n_must (decide_eq_true hnz) ?_
        (refine gs ?_)
        refine gw ?_
        rw [e1, e2]
        generalize (0 + k) % l.length = i at hiq hS ⊢
        have hx : l[i]? = some l[i] := List.getElem?_eq_getElem _
        have hd : l.getD i 0 = l[i] := by simp [List.getD, hx]
        generalize l[i] = x at hx hd
        rw [hd] at hS
        by_cases hne : (i : Int) = me
        · rw [if_neg (by rintro ⟨h, _⟩; exact h hne)] at hS
          first
          | exfalso; omega
          | (repeat ((first | refine n_must rfl ?_ | refine n_chk (drawF_ok (by decide +kernel)) ?_ | refine n_same rfl ?_ | ((first | refine n_must ?_ ?_ | refine n_brT ?_ ?_); (focus (first | (simp [hne]; done) | (simp [hne]; omega) | (simp only [hne]; simp; done)))) | (refine n_brF ?_ ?_; (focus (first | (simp [hne]; done) | (simp [hne]; omega) | (simp only [hne]; simp; done)))) | refine n_must (by (with_reducible refine and_shape ?_) <;> kernel_rfl) ?_); (refine gs ?_)))
            refine n_again ⟨k + 1, by omega, by omega, ?_, ⟨_, rfl⟩⟩
            rw [hnx, hS]; exact (by (repeat (first | exact trivial | refine ⟨⟨rfl, rfl⟩, ?_⟩ | refine ⟨⟨rfl, congrArg (SV.int .i64) ek⟩, ?_⟩)))
        · (repeat ((first | refine n_must rfl ?_ | refine n_chk (drawF_ok (by decide +kernel)) ?_ | refine n_same rfl ?_ | ((first | refine n_must ?_ ?_ | refine n_brT ?_ ?_); (focus (first | (simp [hne]; done) | (simp [hne]; omega) | (simp only [hne]; simp; done)))) | (refine n_brF ?_ ?_; (focus (first | (simp [hne]; done) | (simp [hne]; omega) | (simp only [hne]; simp; done)))) | refine n_must (by (with_reducible refine and_shape ?_) <;> kernel_rfl) ?_); (refine gs ?_)))
          refine n_ldDI (.int .i64 x) rfl rfl (fun _ w1 _ hI1 => load_cell aggInt (ints_cell (hI1.res 0 rfl rfl) hx (by simp))) ?_
          (refine gs ?_)
          by_cases hx0 : 0 < x
          · (repeat ((first | refine n_must rfl ?_ | refine n_chk (drawF_ok (by decide +kernel)) ?_ | refine n_same rfl ?_ | ((first | refine n_must ?_ ?_ | refine n_brT ?_ ?_); (focus (first | (simp [hx0]; done) | (simp [hx0]; omega) | (simp only [hx0]; simp; done)))) | (refine n_brF ?_ ?_; (focus (first | (simp [hx0]; done) | (simp [hx0]; omega) | (simp only [hx0]; simp; done)))) | refine n_must (by (with_reducible refine and_shape ?_) <;> kernel_rfl) ?_); (refine gs ?_)))
            by_cases hb0 : best < 0
            · rw [if_pos ⟨hne, hx0, .inl hb0⟩] at hS
              (repeat ((first | refine n_must rfl ?_ | refine n_chk (drawF_ok (by decide +kernel)) ?_ | refine n_same rfl ?_ | ((first | refine n_must ?_ ?_ | refine n_brT ?_ ?_); (focus (first | (simp [hb0]; done) | (simp [hb0]; omega) | (simp only [hb0]; simp; done)))) | (refine n_brF ?_ ?_; (focus (first | (simp [hb0]; done) | (simp [hb0]; omega) | (simp only [hb0]; simp; done)))) | refine n_must (by (with_reducible refine and_shape ?_) <;> kernel_rfl) ?_); (refine gs ?_)))
              refine n_again ⟨k + 1, by omega, by omega, ?_, ⟨_, rfl⟩⟩
              rw [hnx, hS]; exact (by (repeat (first | exact trivial | refine ⟨⟨rfl, rfl⟩, ?_⟩ | refine ⟨⟨rfl, congrArg (SV.int .i64) ek⟩, ?_⟩)))
            · have hbn : best.toNat < l.length := by omega
              have hy : l[best.toNat]? = some l[best.toNat] := List.getElem?_eq_getElem _
              have hyd : l.getD best.toNat 0 = l[best.toNat] := by simp [List.getD, hy]
              generalize l[best.toNat] = y at hy hyd
              rw [hyd] at hS
              (repeat ((first | refine n_must rfl ?_ | refine n_chk (drawF_ok (by decide +kernel)) ?_ | refine n_same rfl ?_ | ((first | refine n_must ?_ ?_ | refine n_brT ?_ ?_); (focus (first | (simp [hb0]; done) | (simp [hb0]; omega) | (simp only [hb0]; simp; done)))) | (refine n_brF ?_ ?_; (focus (first | (simp [hb0]; done) | (simp [hb0]; omega) | (simp only [hb0]; simp; done)))) | refine n_must (by (with_reducible refine and_shape ?_) <;> kernel_rfl) ?_); (refine gs ?_)))
              refine n_ldDI (.int .i64 x) rfl rfl (fun _ w1 _ hI1 => load_cell aggInt (ints_cell (hI1.res 0 rfl rfl) hx (by simp))) ?_
              (refine gs ?_)
              refine gw ?_
              refine n_ldDI (.int .i64 y) rfl rfl (fun _ w1 _ hI1 => load_cell aggInt (ints_cell (hI1.res 0 rfl rfl) hy (by simp))) ?_
              (refine gs ?_)
              by_cases hyx : y < x
              · rw [if_pos ⟨hne, hx0, .inr hyx⟩] at hS
                (repeat ((first | refine n_must rfl ?_ | refine n_chk (drawF_ok (by decide +kernel)) ?_ | refine n_same rfl ?_ | ((first | refine n_must ?_ ?_ | refine n_brT ?_ ?_); (focus (first | (simp [hyx]; done) | (simp [hyx]; omega) | (simp only [hyx]; simp; done)))) | (refine n_brF ?_ ?_; (focus (first | (simp [hyx]; done) | (simp [hyx]; omega) | (simp only [hyx]; simp; done)))) | refine n_must (by (with_reducible refine and_shape ?_) <;> kernel_rfl) ?_); (refine gs ?_)))
                refine n_again ⟨k + 1, by omega, by omega, ?_, ⟨_, rfl⟩⟩
                rw [hnx, hS]; exact (by (repeat (first | exact trivial | refine ⟨⟨rfl, rfl⟩, ?_⟩ | refine ⟨⟨rfl, congrArg (SV.int .i64) ek⟩, ?_⟩)))
              · rw [if_neg (by rintro ⟨_, _, h | h⟩; exact hb0 h; exact hyx h)] at hS
                (repeat ((first | refine n_must rfl ?_ | refine n_chk (drawF_ok (by decide +kernel)) ?_ | refine n_same rfl ?_ | ((first | refine n_must ?_ ?_ | refine n_brT ?_ ?_); (focus (first | (simp [hyx]; done) | (simp [hyx]; omega) | (simp only [hyx]; simp; done)))) | (refine n_brF ?_ ?_; (focus (first | (simp [hyx]; done) | (simp [hyx]; omega) | (simp only [hyx]; simp; done)))) | refine n_must (by (with_reducible refine and_shape ?_) <;> kernel_rfl) ?_); (refine gs ?_)))
                refine n_again ⟨k + 1, by omega, by omega, ?_, ⟨_, rfl⟩⟩
                rw [hnx, hS]; exact (by (repeat (first | exact trivial | refine ⟨⟨rfl, rfl⟩, ?_⟩ | refine ⟨⟨rfl, congrArg (SV.int .i64) ek⟩, ?_⟩)))
          · rw [if_neg (by rintro ⟨_, h, _⟩; exact hx0 h)] at hS
            (repeat ((first | refine n_must rfl ?_ | refine n_chk (drawF_ok (by decide +kernel)) ?_ | refine n_same rfl ?_ | ((first | refine n_must ?_ ?_ | refine n_brT ?_ ?_); (focus (first | (simp [hx0]; done) | (simp [hx0]; omega) | (simp only [hx0]; simp; done)))) | (refine n_brF ?_ ?_; (focus (first | (simp [hx0]; done) | (simp [hx0]; omega) | (simp only [hx0]; simp; done)))) | refine n_must (by (with_reducible refine and_shape ?_) <;> kernel_rfl) ?_); (refine gs ?_)))
            refine n_again ⟨k + 1, by omega, by omega, ?_, ⟨_, rfl⟩⟩
            rw [hnx, hS]; exact (by (repeat (first | exact trivial | refine ⟨⟨rfl, rfl⟩, ?_⟩ | refine ⟨⟨rfl, congrArg (SV.int .i64) ek⟩, ?_⟩)))
      · obtain rfl : k = l.length := by omega
        refine gw ?_
        refine n_exit rfl ?_
        (refine gs ?_)
        refine gw ?_
        rw [ask_eq]
        exact n_ret0 rfl rfl fun ids' w' hp hI' => ⟨rfl, hI'.frm⟩
end
end Go.Proofs.YtglafgpjgkphkaaGreatDoor
