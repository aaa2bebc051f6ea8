/- Package views: Tell. -/
import Derived.Test.YtcpecnpnnodfhaaVwB
set_option maxRecDepth 100000
set_option linter.unusedSimpArgs false
set_option linter.unusedVariables false
set_option maxHeartbeats 4000000
namespace Go.Proofs.Ytcpecnpnnodfhaa
open Go.RowKit

def wr (n : Int) : Int := IntKind.i64.wrap n
def Vs.last (s : Vs) (r : Int) (nm : ByteArray) : Vw := (mget s.V (r, nm)).getD Vw.zero
def Vs.tell (s : Vs) (x0 : Vw) : Vs × Int :=
  if rightB x0 = false then (s, 1) else if (mget s.V (s.me, x0.nm)).isSome = false ∧ 64 ≤ cnt s.ns s.me then (s, 102) else
  if ({ x0 with ver := (s.last s.me x0.nm).ver } : Vw) = s.last s.me x0.nm then (s, 0) else (s.put s.me { x0 with ver := wr ((s.last s.me x0.nm).ver + 1) }, 0)

theorem bytes_eq (a b : ByteArray) : (a.toList == b.toList) = decide (a = b) := by
  rw [Bool.eq_iff_iff]
  simp only [beq_iff_eq, decide_eq_true_eq]
  constructor
  · intro h
    rw [ByteArray.toList_eq, ByteArray.toList_eq] at h
    exact ByteArray.ext (Array.ext' h)
  · rintro rfl; rfl
theorem vw_eqB (x y : Vw) : (x.nm.toList == y.nm.toList && (x.cap == y.cap && (x.rc == y.rc && (x.ver == y.ver && (x.d == y.d && (x.u == y.u && true) && (x.h == y.h && true)))))) = decide (x = y) := by
  obtain ⟨a1, a2, a3, a4, a5, a6, a7⟩ := x
  obtain ⟨b1, b2, b3, b4, b5, b6, b7⟩ := y
  rw [bytes_eq, Bool.eq_iff_iff]
  simp only [Bool.and_eq_true, decide_eq_true_eq, beq_iff_eq, Vw.mk.injEq, and_true]
  constructor
  · rintro ⟨h1, h2, h3, h4, ⟨h5, h6⟩, h7⟩; exact ⟨h1, h2, h3, h4, h5, h6, h7⟩
  · rintro ⟨h1, h2, h3, h4, h5, h6, h7⟩; exact ⟨h1, h2, h3, h4, ⟨h5, h6⟩, h7⟩
theorem Tell_ok {p mb nb : Nat} {s : Vs} {w : World} (hR : (viewsRes p mb nb s).R w) (hme : 0 ≤ s.me ∧ s.me < s.ns.length) (hl : s.ns.length ≤ 1000) (hc : 0 ≤ cnt s.ns s.me ∧ cnt s.ns s.me ≤ 1000000) (nm : ByteArray) (cap rc d u h : Int) (hnm : nm.size ≤ maxLen) :
    Calls Try.prog 25 #[pV p, .string nm, .int .i64 cap, .int .i64 rc, .agg #[.int .i64 d, .int .i64 u], .int .i64 h] w fun e w' => e = .returned (.int .i64 (s.tell ⟨nm, cap, rc, 1, d, u, h⟩).2) ∧ Post (viewsRes p mb nb s) (viewsRes p mb nb (s.tell ⟨nm, cap, rc, 1, d, u, h⟩).1) w w' := by
  have hI : Inv (cx 71 [(4, .then [(0, []), (1, []), (2, []), (3, []), (4, []), (5, []), (6, []), (7, []), (8, []), (9, [])] (.fork 10 [] (.of [(11, []), (12, []), (13, []), (14, []), (15, []), (16, [])]) (.cons 14 [7, 3] (.of [(10, []), (11, []), (12, []), (13, []), (15, []), (16, [])]))))] (viewsRes p mb nb s).fp w) w [0] [⟨84, [.res (viewsRes p mb nb s)], true⟩] := (Inv.nil w).consR (by simp) hR (viewsRes_lt hR) (by simp)
  have hkok : keyE.ok (s.me, nm) := ⟨by constructor <;> omega, hnm⟩
  have hrn : s.me.toNat < s.ns.length := by omega
  have hget : (s.ns.map intV)[s.me.toNat]? = some (.int .i64 (cnt s.ns s.me)) := by simp [cnt, List.getD, hrn]
  have hlast : s.last s.me nm = (mget s.V (s.me, nm)).getD Vw.zero := rfl
  refine calls_sm (cx 71 [(4, .then [(0, []), (1, []), (2, []), (3, []), (4, []), (5, []), (6, []), (7, []), (8, []), (9, [])] (.fork 10 [] (.of [(11, []), (12, []), (13, []), (14, []), (15, []), (16, [])]) (.cons 14 [7, 3] (.of [(10, []), (11, []), (12, []), (13, []), (15, []), (16, [])]))))] (viewsRes p mb nb s).fp w) (vals := [.raw (pV p), .str nm, .int .i64 cap, .int .i64 rc, .agg [.int .i64 d, .int .i64 u], .int .i64 h]) mixed Try.func25 rfl rfl rfl hI rfl (st rfl ?_); conv => arg 3; whnf
  refine gg ?_
  refine n_sameP (.bool (rightB ⟨nm, cap, rc, 1, d, u, h⟩)) rfl rfl rfl (fun _ w1 hp1 hI1 => right_ok ⟨nm, cap, rc, 1, d, u, h⟩ w1) ?_; (refine gs ?_)
  refine gg ?_
  by_cases hr : rightB ⟨nm, cap, rc, 1, d, u, h⟩ = false
  · (repeat ((first | refine n_must rfl ?_ | refine n_chk (drawF_ok (by decide +kernel)) ?_ | refine n_same rfl ?_ | ((first | refine n_must ?_ ?_ | refine n_brT ?_ ?_); (focus (first | (simp [hr]; done) | (simp [hr]; omega) | (simp only [hr]; simp; done)))) | (refine n_brF ?_ ?_; (focus (first | (simp [hr]; done) | (simp [hr]; omega) | (simp only [hr]; simp; done)))) | refine n_must (by (with_reducible refine and_shape ?_) <;> kernel_rfl) ?_); (refine gs ?_)))
    have e : s.tell ⟨nm, cap, rc, 1, d, u, h⟩ = (s, 1) := by rw [Vs.tell, if_pos hr]
    rw [e]
    exact n_ret0 rfl rfl fun ids' w' hp hI' => ⟨rfl, post_res hI' rfl 0 rfl rfl rfl⟩
  · have hr1 : rightB ⟨nm, cap, rc, 1, d, u, h⟩ = true := by simpa using hr
    (repeat ((first | refine n_must rfl ?_ | refine n_chk (drawF_ok (by decide +kernel)) ?_ | refine n_same rfl ?_ | ((first | refine n_must ?_ ?_ | refine n_brT ?_ ?_); (focus (first | (simp [hr1]; done) | (simp [hr1]; omega) | (simp only [hr1]; simp; done)))) | (refine n_brF ?_ ?_; (focus (first | (simp [hr1]; done) | (simp [hr1]; omega) | (simp only [hr1]; simp; done)))) | refine n_must (by (with_reducible refine and_shape ?_) <;> kernel_rfl) ?_); (refine gs ?_)))
    refine n_ldDI (.raw (.map (some mb))) rfl rfl (fun _ w1 _ hI1 => load_cell aggVMap (blk_at (hI1.res 0 rfl rfl).1 (j := 2) rfl rfl)) ?_
    (refine gs ?_)
    refine gg ?_
    refine n_ldDI (.int .i64 s.me) rfl rfl (fun _ w1 _ hI1 => load_cell aggInt (blk_at (hI1.res 0 rfl rfl).1 (j := 0) rfl rfl)) ?_
    (refine gs ?_)
    refine gg ?_
    refine n_both ?_ ?_
    · (refine gs ?_)
      refine gg ?_
      refine n_lookup (E := keyE) (ev' := vwV) (b := mb) (kr := .agg [.int .i64 s.me, .str nm]) (zr := .agg Vw.zero.sv) (z := Vw.zero.val) s.V (s.me, nm) (.tup [.agg (s.last s.me nm).sv, .bool (mget s.V (s.me, nm)).isSome]) keyK rfl rfl rfl rfl rfl rfl hkok rfl rfl (by rw [lkV]; rfl) (fun _ w1 _ hI1 => by exact (hI1.res 0 rfl rfl).2.1) ?_
      (refine gs ?_)
      refine gg ?_
      cases hm : (mget s.V (s.me, nm)).isSome with
      | true =>
        have htell : s.tell ⟨nm, cap, rc, 1, d, u, h⟩ = if (⟨nm, cap, rc, (s.last s.me nm).ver, d, u, h⟩ : Vw) = s.last s.me nm then (s, 0) else (s.put s.me ⟨nm, cap, rc, wr ((s.last s.me nm).ver + 1), d, u, h⟩, 0) := by rw [Vs.tell, if_neg hr, if_neg (by simp [hm])]
        generalize s.last s.me nm = was at htell ⊢
        refine gw ?_
        by_cases hE : (⟨nm, cap, rc, was.ver, d, u, h⟩ : Vw) = was
        · refine n_brT ((vw_eqB ⟨nm, cap, rc, was.ver, d, u, h⟩ was).trans (decide_eq_true hE)) ?_
          (refine gs ?_)
          refine gw ?_
          rw [if_pos hE] at htell
          rw [htell]
          exact n_ret0 rfl rfl fun ids' w' hp hI' => ⟨rfl, post_res hI' rfl 0 rfl rfl rfl⟩
        · refine n_brF ((vw_eqB ⟨nm, cap, rc, was.ver, d, u, h⟩ was).trans (decide_eq_false hE)) ?_
          (refine gs ?_)
          refine gw ?_
          refine n_ldDI (.int .i64 s.me) rfl rfl (fun _ w1 _ hI1 => load_cell aggInt (blk_at (hI1.res 0 rfl rfl).1 (j := 0) rfl rfl)) ?_
          (refine gs ?_)
          refine gw ?_
          refine n_callR (Y := Unit) 0 (fun _ => viewsRes p mb nb (s.put s.me ⟨nm, cap, rc, wr (was.ver + 1), d, u, h⟩)) (fun _ => .tup []) (fun _ => .tuple #[]) (fun _ => True) rfl rfl (fun _ => rfl) rfl rfl rfl (fun _ w1 hp1 hI1 hR => (put_ok hR hme hl hc ⟨nm, cap, rc, wr (was.ver + 1), d, u, h⟩ hnm).mono fun e w' ⟨he, hf⟩ => ⟨(), he, trivial, hf⟩) ?_
          intro _ _
          (refine gs ?_)
          refine gw ?_
          rw [if_neg hE] at htell
          rw [htell]
          exact n_ret0 rfl rfl fun ids' w' hp hI' => ⟨rfl, post_res hI' rfl 0 rfl rfl rfl⟩
      | false =>
        refine gw ?_
        refine n_ldDI (.raw (.slice (some ⟨nb, 0, none⟩) s.ns.length s.ns.length)) rfl rfl (fun _ w1 _ hI1 => load_cell aggInts (blk_at (hI1.res 0 rfl rfl).1 (j := 3) rfl rfl)) ?_
        (refine gs ?_)
        refine gw ?_
        refine n_ldDI (.int .i64 s.me) rfl rfl (fun _ w1 _ hI1 => load_cell aggInt (blk_at (hI1.res 0 rfl rfl).1 (j := 0) rfl rfl)) ?_
        (refine gs ?_)
        refine gw ?_
        refine n_ldDI (.int .i64 (cnt s.ns s.me)) rfl rfl (fun _ w1 _ hI1 => load_cell aggInt (blk_at (hI1.res 0 rfl rfl).2.2.1 (j := s.me.toNat) hget (by simp))) ?_
        (refine gs ?_)
        refine gw ?_
        by_cases h64 : 64 ≤ cnt s.ns s.me
        · (repeat ((first | refine n_must rfl ?_ | refine n_chk (drawF_ok (by decide +kernel)) ?_ | refine n_same rfl ?_ | ((first | refine n_must ?_ ?_ | refine n_brT ?_ ?_); (focus (first | (simp [h64]; done) | (simp [h64]; omega) | (simp only [h64]; simp; done)))) | (refine n_brF ?_ ?_; (focus (first | (simp [h64]; done) | (simp [h64]; omega) | (simp only [h64]; simp; done)))) | refine n_must (by (with_reducible refine and_shape ?_) <;> kernel_rfl) ?_); (refine gs ?_)))
          have e : s.tell ⟨nm, cap, rc, 1, d, u, h⟩ = (s, 102) := by rw [Vs.tell, if_neg hr, if_pos ⟨hm, h64⟩]
          rw [e]
          exact n_ret0 rfl rfl fun ids' w' hp hI' => ⟨rfl, post_res hI' rfl 0 rfl rfl rfl⟩
        · (repeat ((first | refine n_must rfl ?_ | refine n_chk (drawF_ok (by decide +kernel)) ?_ | refine n_same rfl ?_ | ((first | refine n_must ?_ ?_ | refine n_brT ?_ ?_); (focus (first | (simp [h64]; done) | (simp [h64]; omega) | (simp only [h64]; simp; done)))) | (refine n_brF ?_ ?_; (focus (first | (simp [h64]; done) | (simp [h64]; omega) | (simp only [h64]; simp; done)))) | refine n_must (by (with_reducible refine and_shape ?_) <;> kernel_rfl) ?_); (refine gs ?_)))
          have htell : s.tell ⟨nm, cap, rc, 1, d, u, h⟩ = if (⟨nm, cap, rc, (s.last s.me nm).ver, d, u, h⟩ : Vw) = s.last s.me nm then (s, 0) else (s.put s.me ⟨nm, cap, rc, wr ((s.last s.me nm).ver + 1), d, u, h⟩, 0) := by rw [Vs.tell, if_neg hr, if_neg (by simp [h64])]
          generalize s.last s.me nm = was at htell ⊢
          by_cases hE : (⟨nm, cap, rc, was.ver, d, u, h⟩ : Vw) = was
          · refine n_brT ((vw_eqB ⟨nm, cap, rc, was.ver, d, u, h⟩ was).trans (decide_eq_true hE)) ?_
            (refine gs ?_)
            refine gw ?_
            rw [if_pos hE] at htell
            rw [htell]
            exact n_ret0 rfl rfl fun ids' w' hp hI' => ⟨rfl, post_res hI' rfl 0 rfl rfl rfl⟩
          · refine n_brF ((vw_eqB ⟨nm, cap, rc, was.ver, d, u, h⟩ was).trans (decide_eq_false hE)) ?_
            (refine gs ?_)
            refine gw ?_
            refine n_ldDI (.int .i64 s.me) rfl rfl (fun _ w1 _ hI1 => load_cell aggInt (blk_at (hI1.res 0 rfl rfl).1 (j := 0) rfl rfl)) ?_
            (refine gs ?_)
            refine gw ?_
            refine n_callR (Y := Unit) 0 (fun _ => viewsRes p mb nb (s.put s.me ⟨nm, cap, rc, wr (was.ver + 1), d, u, h⟩)) (fun _ => .tup []) (fun _ => .tuple #[]) (fun _ => True) rfl rfl (fun _ => rfl) rfl rfl rfl (fun _ w1 hp1 hI1 hR => (put_ok hR hme hl hc ⟨nm, cap, rc, wr (was.ver + 1), d, u, h⟩ hnm).mono fun e w' ⟨he, hf⟩ => ⟨(), he, trivial, hf⟩) ?_
            intro _ _
            (refine gs ?_)
            refine gw ?_
            rw [if_neg hE] at htell
            rw [htell]
            exact n_ret0 rfl rfl fun ids' w' hp hI' => ⟨rfl, post_res hI' rfl 0 rfl rfl rfl⟩
    · (refine gs ?_)
      refine gg ?_
      refine n_ldRI (.int .i64 s.me) rfl (fun _ w1 _ hI1 => load_cell aggInt (blk_at (hI1.res 0 rfl rfl).1 (j := 0) rfl rfl)) ?_
      (refine gs ?_)
      refine n_ldRI (.raw (.map (some mb))) rfl (fun _ w1 _ hI1 => load_cell aggVMap (blk_at (hI1.res 0 rfl rfl).1 (j := 2) rfl rfl)) ?_
      (refine gs ?_)
      refine gg ?_
      refine n_lookup (E := keyE) (ev' := vwV) (b := mb) (kr := .agg [.int .i64 s.me, .str nm]) (zr := .agg Vw.zero.sv) (z := Vw.zero.val) s.V (s.me, nm) (.tup [.agg (s.last s.me nm).sv, .bool (mget s.V (s.me, nm)).isSome]) keyK rfl rfl rfl rfl rfl rfl hkok rfl rfl (by rw [lkV]; rfl) (fun _ w1 _ hI1 => by exact (hI1.res 0 rfl rfl).2.1) ?_
      (refine gs ?_)
      refine gg ?_
      cases hm : (mget s.V (s.me, nm)).isSome with
      | true =>
        have htell : s.tell ⟨nm, cap, rc, 1, d, u, h⟩ = if (⟨nm, cap, rc, (s.last s.me nm).ver, d, u, h⟩ : Vw) = s.last s.me nm then (s, 0) else (s.put s.me ⟨nm, cap, rc, wr ((s.last s.me nm).ver + 1), d, u, h⟩, 0) := by rw [Vs.tell, if_neg hr, if_neg (by simp [hm])]
        generalize s.last s.me nm = was at htell ⊢
        refine gw ?_
        by_cases hE : (⟨nm, cap, rc, was.ver, d, u, h⟩ : Vw) = was
        · refine n_brT ((vw_eqB ⟨nm, cap, rc, was.ver, d, u, h⟩ was).trans (decide_eq_true hE)) ?_
          (refine gs ?_)
          refine gw ?_
          rw [if_pos hE] at htell
          rw [htell]
          exact n_ret0 rfl rfl fun ids' w' hp hI' => ⟨rfl, post_res hI' rfl 0 rfl rfl rfl⟩
        · refine n_brF ((vw_eqB ⟨nm, cap, rc, was.ver, d, u, h⟩ was).trans (decide_eq_false hE)) ?_
          (refine gs ?_)
          refine gw ?_
          refine n_ldDI (.int .i64 s.me) rfl rfl (fun _ w1 _ hI1 => load_cell aggInt (blk_at (hI1.res 0 rfl rfl).1 (j := 0) rfl rfl)) ?_
          (refine gs ?_)
          refine gw ?_
          refine n_callR (Y := Unit) 0 (fun _ => viewsRes p mb nb (s.put s.me ⟨nm, cap, rc, wr (was.ver + 1), d, u, h⟩)) (fun _ => .tup []) (fun _ => .tuple #[]) (fun _ => True) rfl rfl (fun _ => rfl) rfl rfl rfl (fun _ w1 hp1 hI1 hR => (put_ok hR hme hl hc ⟨nm, cap, rc, wr (was.ver + 1), d, u, h⟩ hnm).mono fun e w' ⟨he, hf⟩ => ⟨(), he, trivial, hf⟩) ?_
          intro _ _
          (refine gs ?_)
          refine gw ?_
          rw [if_neg hE] at htell
          rw [htell]
          exact n_ret0 rfl rfl fun ids' w' hp hI' => ⟨rfl, post_res hI' rfl 0 rfl rfl rfl⟩
      | false =>
        refine gw ?_
        refine n_ldDI (.raw (.slice (some ⟨nb, 0, none⟩) s.ns.length s.ns.length)) rfl rfl (fun _ w1 _ hI1 => load_cell aggInts (blk_at (hI1.res 0 rfl rfl).1 (j := 3) rfl rfl)) ?_
        (refine gs ?_)
        refine gw ?_
        refine n_ldDI (.int .i64 s.me) rfl rfl (fun _ w1 _ hI1 => load_cell aggInt (blk_at (hI1.res 0 rfl rfl).1 (j := 0) rfl rfl)) ?_
        (refine gs ?_)
        refine gw ?_
        refine n_ldDI (.int .i64 (cnt s.ns s.me)) rfl rfl (fun _ w1 _ hI1 => load_cell aggInt (blk_at (hI1.res 0 rfl rfl).2.2.1 (j := s.me.toNat) hget (by simp))) ?_
        (refine gs ?_)
        refine gw ?_
        by_cases h64 : 64 ≤ cnt s.ns s.me
        · (repeat ((first | refine n_must rfl ?_ | refine n_chk (drawF_ok (by decide +kernel)) ?_ | refine n_same rfl ?_ | ((first | refine n_must ?_ ?_ | refine n_brT ?_ ?_); (focus (first | (simp [h64]; done) | (simp [h64]; omega) | (simp only [h64]; simp; done)))) | (refine n_brF ?_ ?_; (focus (first | (simp [h64]; done) | (simp [h64]; omega) | (simp only [h64]; simp; done)))) | refine n_must (by (with_reducible refine and_shape ?_) <;> kernel_rfl) ?_); (refine gs ?_)))
          have e : s.tell ⟨nm, cap, rc, 1, d, u, h⟩ = (s, 102) := by rw [Vs.tell, if_neg hr, if_pos ⟨hm, h64⟩]
          rw [e]
          exact n_ret0 rfl rfl fun ids' w' hp hI' => ⟨rfl, post_res hI' rfl 0 rfl rfl rfl⟩
        · (repeat ((first | refine n_must rfl ?_ | refine n_chk (drawF_ok (by decide +kernel)) ?_ | refine n_same rfl ?_ | ((first | refine n_must ?_ ?_ | refine n_brT ?_ ?_); (focus (first | (simp [h64]; done) | (simp [h64]; omega) | (simp only [h64]; simp; done)))) | (refine n_brF ?_ ?_; (focus (first | (simp [h64]; done) | (simp [h64]; omega) | (simp only [h64]; simp; done)))) | refine n_must (by (with_reducible refine and_shape ?_) <;> kernel_rfl) ?_); (refine gs ?_)))
          have htell : s.tell ⟨nm, cap, rc, 1, d, u, h⟩ = if (⟨nm, cap, rc, (s.last s.me nm).ver, d, u, h⟩ : Vw) = s.last s.me nm then (s, 0) else (s.put s.me ⟨nm, cap, rc, wr ((s.last s.me nm).ver + 1), d, u, h⟩, 0) := by rw [Vs.tell, if_neg hr, if_neg (by simp [h64])]
          generalize s.last s.me nm = was at htell ⊢
          by_cases hE : (⟨nm, cap, rc, was.ver, d, u, h⟩ : Vw) = was
          · refine n_brT ((vw_eqB ⟨nm, cap, rc, was.ver, d, u, h⟩ was).trans (decide_eq_true hE)) ?_
            (refine gs ?_)
            refine gw ?_
            rw [if_pos hE] at htell
            rw [htell]
            exact n_ret0 rfl rfl fun ids' w' hp hI' => ⟨rfl, post_res hI' rfl 0 rfl rfl rfl⟩
          · refine n_brF ((vw_eqB ⟨nm, cap, rc, was.ver, d, u, h⟩ was).trans (decide_eq_false hE)) ?_
            (refine gs ?_)
            refine gw ?_
            refine n_ldDI (.int .i64 s.me) rfl rfl (fun _ w1 _ hI1 => load_cell aggInt (blk_at (hI1.res 0 rfl rfl).1 (j := 0) rfl rfl)) ?_
            (refine gs ?_)
            refine gw ?_
            refine n_callR (Y := Unit) 0 (fun _ => viewsRes p mb nb (s.put s.me ⟨nm, cap, rc, wr (was.ver + 1), d, u, h⟩)) (fun _ => .tup []) (fun _ => .tuple #[]) (fun _ => True) rfl rfl (fun _ => rfl) rfl rfl rfl (fun _ w1 hp1 hI1 hR => (put_ok hR hme hl hc ⟨nm, cap, rc, wr (was.ver + 1), d, u, h⟩ hnm).mono fun e w' ⟨he, hf⟩ => ⟨(), he, trivial, hf⟩) ?_
            intro _ _
            (refine gs ?_)
            refine gw ?_
            rw [if_neg hE] at htell
            rw [htell]
            exact n_ret0 rfl rfl fun ids' w' hp hI' => ⟨rfl, post_res hI' rfl 0 rfl rfl rfl⟩
end Go.Proofs.Ytcpecnpnnodfhaa
