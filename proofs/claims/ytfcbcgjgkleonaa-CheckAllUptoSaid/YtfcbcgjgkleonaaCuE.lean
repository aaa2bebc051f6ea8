/- Chapter 17's law: CheckAll. -/
import Derived.Test.YtfcbcgjgkleonaaBnS
import Derived.Test.YtfcbcgjgkleonaaBnN
import Derived.Test.YtfcbcgjgkleonaaCkX
set_option maxRecDepth 100000
set_option linter.unusedSimpArgs false
set_option linter.unusedVariables false
set_option maxHeartbeats 8000000
namespace Go.Proofs.Ytfcbcgjgkleonaa
open Go.RowKit

structure Cs where
  ho : Option Addr
  hc : Nat
  h : List Pa
  eo : Option Addr
  ec : Nat
  e : List Ef
abbrev Cs.l (c : Cs) : List Value := [.slice c.ho c.h.length c.hc, .slice c.eo c.e.length c.ec]
theorem cs_len (c : Cs) : c.l.length = 2 := rfl
/-- What is known of a case. -/
structure Cs.good (w : World) (c : Cs) : Prop where
  h : (paRes c.ho c.h).R w
  e : (efRes c.eo c.e).R w
  hg : ∀ p ∈ c.h, p.good
  eg : ∀ e ∈ c.e, e.good
  hl : c.h.length ≤ 1048576
  el : c.e.length ≤ 1048576
abbrev caRes (o : Option Addr) (C : List Cs) : Res := readRes o (C.flatMap Cs.l)
theorem aggEffs : aggB Try.prog 23 = some false := by kernel_rfl
theorem aggCase : aggB Try.prog 34 = some true := by kernel_rfl
theorem CheckAll_ok {o : Option Addr} {C : List Cs} {w : World} (cap : Nat) (hR : (caRes o C).R w) (hC : ∀ c ∈ C, c.good w) (hl : C.length ≤ 1048576) :
    Calls Try.prog 5 #[.slice o C.length cap] w fun x w' => x = .returned (.bool true) ∧ Frm [] w w' := by
  have hI := Inv.nil (P := Try.prog) (N := 83) (S := []) (os := []) w
  have hL1 : ∀ w1, Frm [] w w1 → (caRes o C).R w1 := fun w1 hf => (caRes o C).stable _ _ (fun k hk => hf.block k (rd_lt hR k hk) (by simp)) hR
  have hC1 : ∀ w1, Frm [] w w1 → ∀ c ∈ C, c.good w1 := fun w1 hf c hc => by
    have h := hC c hc
    exact { h with h := (paRes c.ho c.h).stable _ _ (fun k hk => hf.block k (rd_lt h.h k hk) (by simp)) h.h, e := (efRes c.eo c.e).stable _ _ (fun k hk => hf.block k (rd_lt h.e k hk) (by simp)) h.e }
  refine calls_sm (cx 83 [] [] w) (vals := [.raw (.slice o C.length cap)]) mixed Try.func5 rfl rfl rfl hI rfl (st rfl ?_); conv => arg 3; whnf
  refine gw ?_
  refine n_sameP (.bool true) rfl rfl rfl (fun _ w1 hp1 hI1 => able_ok w1) ?_; (refine gs ?_)
  refine gw ?_
  refine n_loop2 rfl fun b0 b1 => ?_
  refine n_loopX [0, 0, 0, 0, 0, 0, 0, 0, 0] [⟨32, [.res Res.none], true⟩, ⟨32, [.res Res.none], true⟩, ⟨30, [.res Res.none], true⟩, ⟨3, [.res Res.none], true⟩, ⟨3, [.res Res.none], true⟩, ⟨32, [.res (kpRes b0 ⟨none, 0, [], none, 0, [], []⟩)], true⟩, ⟨30, [.res Res.none], true⟩, ⟨30, [.res Res.none], true⟩, ⟨3, [.res Res.none], true⟩, ⟨3, [.res Res.none], true⟩, ⟨32, [.res (klRes b1 ⟨none, 0, none, 0, []⟩)], true⟩] rfl (fun w1 hI1 => ?_) ?_
  · have h1 := hI1.addR (Frm.refl [] w1) (lsRow none 0 []) 30 true (rowRes_nil _ _ _) (by simp [rowRes]) (by simp [rowRes])
    have h2 := h1.addR (Frm.refl [] w1) (msRow none 0 []) 3 true (rowRes_nil _ _ _) (by simp [rowRes]) (by simp [rowRes])
    have h3 := h2.addR (Frm.refl [] w1) (rdsRes []) 3 true (fun x hx => by simp at hx) (by simp [rdsRes]) (by simp [rdsRes])
    have h4 := h3.gather (ids0 := [b0, 0, 0, 0]) (mem0 := kpMem ⟨none, 0, [], none, 0, [], []⟩) [0, 2, 3, 4] (.blk rfl rfl rfl rfl (.res rfl (.res rfl (.res rfl .nil)))) (by decide) 32
    have h5 := h4.addR (Frm.refl [] w1) (svRow none 0 0 []) 30 true (rowRes_nil _ _ _) (by simp [rowRes]) (by simp [rowRes])
    have h6 := h5.addR (Frm.refl [] w1) (svRow none 0 0 []) 30 true (rowRes_nil _ _ _) (by simp [rowRes]) (by simp [rowRes])
    have h7 := h6.addR (Frm.refl [] w1) (allRes []) 3 true (all_nil w1) (by simp [allRes]) (by simp [allRes])
    have h8 := h7.addR (Frm.refl [] w1) (rdsRes []) 3 true (fun x hx => by simp at hx) (by simp [rdsRes]) (by simp [rdsRes])
    exact h8.gather (ids0 := [b1, 0, 0, 0, 0]) (mem0 := klMem ⟨none, 0, none, 0, []⟩) [1, 6, 7, 8, 9] (.blk rfl rfl rfl rfl (.res rfl (.res rfl (.res rfl (.res rfl .nil))))) (by decide) 32
  refine n_loop (σ := Nat × Kp × Kl) (fun t => [(0, .raw (.slice o C.length cap)), (3, .ptr 0 0), (4, .ptr 1 0), (5, .int .i64 (t.1 : Nat))]) (fun t => [⟨32, [.res Res.none], true⟩, ⟨32, [.res Res.none], true⟩, ⟨30, [.res Res.none], true⟩, ⟨3, [.res Res.none], true⟩, ⟨3, [.res Res.none], true⟩, ⟨32, [.res (kpRes b0 t.2.1)], true⟩, ⟨30, [.res Res.none], true⟩, ⟨30, [.res Res.none], true⟩, ⟨3, [.res Res.none], true⟩, ⟨3, [.res Res.none], true⟩, ⟨32, [.res (klRes b1 t.2.2)], true⟩]) (fun t => t.1 ≤ C.length ∧ t.2.1.ok ∧ t.2.1.Ls.length ≤ 41 * t.1 ∧ t.2.2.E.length ≤ 2 * t.1 ∧ ∀ e ∈ t.2.2.E, e.xs.length ≤ 13) (fun t => C.length - t.1) (0, ⟨none, 0, [], none, 0, [], []⟩, ⟨none, 0, none, 0, []⟩) mixed ⟨by simp, kp0_ok, by simp, by simp, by simp⟩ (fun _ _ => rfl) rfl (by (repeat (first | exact trivial | refine ⟨⟨rfl, rfl⟩, ?_⟩))) (fun s _ => ⟨by (repeat (first | exact trivial | refine ⟨⟨_, rfl⟩, ?_⟩)), by (repeat (first | exact trivial | refine ⟨⟨_, rfl⟩, ?_⟩))⟩) fun t ht => ?_
  obtain ⟨i, K, L⟩ := t
  obtain ⟨hi, hK, hKl, hLl, hLx⟩ := ht
  dsimp only at hi hK hKl hLl hLx ⊢
  (refine gs ?_)
  by_cases hil : i < C.length
  · have ei : IntKind.i64.wrap ((i : Int) + 1) = ((i + 1 : Nat) : Int) := by rw [w64 (by omega) (by omega)]; simp
    have hx : C[i]? = some C[i] := List.getElem?_eq_getElem _
    obtain ⟨ad, rfl⟩ := rd_some cs_len (by omega) hR (show 0 < C.length by omega)
    have hxm := List.getElem_mem hil
    generalize C[i] = x at hx hxm
    have hg : ∀ w1, Frm [] w w1 → x.good w1 := fun w1 hf => hC1 w1 hf x hxm
    have hx0 := hg w (Frm.refl _ _)
    have hsl := searchF_len x.h
    (repeat ((first | refine n_must rfl ?_ | refine n_chk (drawF_ok (by decide +kernel)) ?_ | refine n_same rfl ?_ | ((first | refine n_must ?_ ?_ | refine n_brT ?_ ?_); (focus (first | (simp [hil]; done) | (simp [hil]; omega) | (simp only [hil]; simp; done)))) | (refine n_brF ?_ ?_; (focus (first | (simp [hil]; done) | (simp [hil]; omega) | (simp only [hil]; simp; done)))) | refine n_must (by (with_reducible refine and_shape ?_) <;> kernel_rfl) ?_); (refine gs ?_)))
    (first | (refine n_ldI (.raw (.slice x.ho x.h.length x.hc)) rfl rfl (fun _ w1 _ hI1 => load_cell aggPasts (rd_at cs_len (hL1 _ hI1.frm) hx (j := 0) (by omega) rfl (add_add _ _ _))) ?_; (refine gs ?_)) | (refine n_ldDI (.raw (.slice x.ho x.h.length x.hc)) rfl rfl (fun _ w1 _ hI1 => load_cell aggPasts (rd_at cs_len (hL1 _ hI1.frm) hx (j := 0) (by omega) rfl (add_add _ _ _))) ?_; (refine gs ?_)) | (refine n_ldRI (.raw (.slice x.ho x.h.length x.hc)) rfl (fun _ w1 _ hI1 => load_cell aggPasts (rd_at cs_len (hL1 _ hI1.frm) hx (j := 0) (by omega) rfl (add_add _ _ _))) ?_; (refine gs ?_)))
    (repeat ((first | refine n_must rfl ?_ | refine n_chk (drawF_ok (by decide +kernel)) ?_ | refine n_same rfl ?_ | ((first | refine n_must ?_ ?_ | refine n_brT ?_ ?_); (focus (first | (simp [hil]; done) | (simp [hil]; omega) | (simp only [hil]; simp; done)))) | (refine n_brF ?_ ?_; (focus (first | (simp [hil]; done) | (simp [hil]; omega) | (simp only [hil]; simp; done)))) | refine n_must (by (with_reducible refine and_shape ?_) <;> kernel_rfl) ?_); (refine gs ?_)))
    (first | (refine n_ldI (.raw (.slice x.eo x.e.length x.ec)) rfl rfl (fun _ w1 _ hI1 => load_cell aggEffs (rd_at cs_len (hL1 _ hI1.frm) hx (j := 1) (by omega) rfl (add_add _ _ _))) ?_; (refine gs ?_)) | (refine n_ldDI (.raw (.slice x.eo x.e.length x.ec)) rfl rfl (fun _ w1 _ hI1 => load_cell aggEffs (rd_at cs_len (hL1 _ hI1.frm) hx (j := 1) (by omega) rfl (add_add _ _ _))) ?_; (refine gs ?_)) | (refine n_ldRI (.raw (.slice x.eo x.e.length x.ec)) rfl (fun _ w1 _ hI1 => load_cell aggEffs (rd_at cs_len (hL1 _ hI1.frm) hx (j := 1) (by omega) rfl (add_add _ _ _))) ?_; (refine gs ?_)))
    (repeat ((first | refine n_must rfl ?_ | refine n_chk (drawF_ok (by decide +kernel)) ?_ | refine n_same rfl ?_ | ((first | refine n_must ?_ ?_ | refine n_brT ?_ ?_); (focus (first | (simp [hil]; done) | (simp [hil]; omega) | (simp only [hil]; simp; done)))) | (refine n_brF ?_ ?_; (focus (first | (simp [hil]; done) | (simp [hil]; omega) | (simp only [hil]; simp; done)))) | refine n_must (by (with_reducible refine and_shape ?_) <;> kernel_rfl) ?_); (refine gs ?_)))
    refine n_sameP (.bool true) rfl rfl rfl (fun _ w1 hp1 hI1 => verifies_ok x.hc x.ec (hg _ hI1.frm).h (rd_lt (hg _ hI1.frm).h) (hg _ hI1.frm).e (rd_lt (hg _ hI1.frm).e) (by have := hx0.hl; omega) (by have := hx0.el; omega) (fun p hp => ⟨(hx0.hg p hp).se, (hx0.hg p hp).id⟩) hx0.eg) ?_; (refine gs ?_)
    (repeat ((first | refine n_must rfl ?_ | refine n_chk (drawF_ok (by decide +kernel)) ?_ | refine n_same rfl ?_ | ((first | refine n_must ?_ ?_ | refine n_brT ?_ ?_); (focus (first | (simp [hil]; done) | (simp [hil]; omega) | (simp only [hil]; simp; done)))) | (refine n_brF ?_ ?_; (focus (first | (simp [hil]; done) | (simp [hil]; omega) | (simp only [hil]; simp; done)))) | refine n_must (by (with_reducible refine and_shape ?_) <;> kernel_rfl) ?_); (refine gs ?_)))
    (first | (refine n_ldI (.raw (.slice x.ho x.h.length x.hc)) rfl rfl (fun _ w1 _ hI1 => load_cell aggPasts (rd_at cs_len (hL1 _ hI1.frm) hx (j := 0) (by omega) rfl (add_add _ _ _))) ?_; (refine gs ?_)) | (refine n_ldDI (.raw (.slice x.ho x.h.length x.hc)) rfl rfl (fun _ w1 _ hI1 => load_cell aggPasts (rd_at cs_len (hL1 _ hI1.frm) hx (j := 0) (by omega) rfl (add_add _ _ _))) ?_; (refine gs ?_)) | (refine n_ldRI (.raw (.slice x.ho x.h.length x.hc)) rfl (fun _ w1 _ hI1 => load_cell aggPasts (rd_at cs_len (hL1 _ hI1.frm) hx (j := 0) (by omega) rfl (add_add _ _ _))) ?_; (refine gs ?_)))
    (repeat ((first | refine n_must rfl ?_ | refine n_chk (drawF_ok (by decide +kernel)) ?_ | refine n_same rfl ?_ | ((first | refine n_must ?_ ?_ | refine n_brT ?_ ?_); (focus (first | (simp [hil]; done) | (simp [hil]; omega) | (simp only [hil]; simp; done)))) | (refine n_brF ?_ ?_; (focus (first | (simp [hil]; done) | (simp [hil]; omega) | (simp only [hil]; simp; done)))) | refine n_must (by (with_reducible refine and_shape ?_) <;> kernel_rfl) ?_); (refine gs ?_)))
    refine n_sameP (.bool true) rfl rfl rfl (fun _ w1 hp1 hI1 => searches_ok x.hc (hg _ hI1.frm).h (rd_lt (hg _ hI1.frm).h) (by have := hx0.hl; omega) hx0.hg) ?_; (refine gs ?_)
    (repeat ((first | refine n_must rfl ?_ | refine n_chk (drawF_ok (by decide +kernel)) ?_ | refine n_same rfl ?_ | ((first | refine n_must ?_ ?_ | refine n_brT ?_ ?_); (focus (first | (simp [hil]; done) | (simp [hil]; omega) | (simp only [hil]; simp; done)))) | (refine n_brF ?_ ?_; (focus (first | (simp [hil]; done) | (simp [hil]; omega) | (simp only [hil]; simp; done)))) | refine n_must (by (with_reducible refine and_shape ?_) <;> kernel_rfl) ?_); (refine gs ?_)))
    (first | (refine n_ldI (.raw (.slice x.ho x.h.length x.hc)) rfl rfl (fun _ w1 _ hI1 => load_cell aggPasts (rd_at cs_len (hL1 _ hI1.frm) hx (j := 0) (by omega) rfl (add_add _ _ _))) ?_; (refine gs ?_)) | (refine n_ldDI (.raw (.slice x.ho x.h.length x.hc)) rfl rfl (fun _ w1 _ hI1 => load_cell aggPasts (rd_at cs_len (hL1 _ hI1.frm) hx (j := 0) (by omega) rfl (add_add _ _ _))) ?_; (refine gs ?_)) | (refine n_ldRI (.raw (.slice x.ho x.h.length x.hc)) rfl (fun _ w1 _ hI1 => load_cell aggPasts (rd_at cs_len (hL1 _ hI1.frm) hx (j := 0) (by omega) rfl (add_add _ _ _))) ?_; (refine gs ?_)))
    (repeat ((first | refine n_must rfl ?_ | refine n_chk (drawF_ok (by decide +kernel)) ?_ | refine n_same rfl ?_ | ((first | refine n_must ?_ ?_ | refine n_brT ?_ ?_); (focus (first | (simp [hil]; done) | (simp [hil]; omega) | (simp only [hil]; simp; done)))) | (refine n_brF ?_ ?_; (focus (first | (simp [hil]; done) | (simp [hil]; omega) | (simp only [hil]; simp; done)))) | refine n_must (by (with_reducible refine and_shape ?_) <;> kernel_rfl) ?_); (refine gs ?_)))
    refine n_callN (fun y : Option Addr × Nat => oRes y (searchF x.h).1) 3 (fun y => .tup [.raw (.slice y.1 (searchF x.h).1.length y.2), .int .i64 (searchF x.h).2]) (fun y => .tuple #[.slice y.1 (searchF x.h).1.length y.2, .int .i64 (searchF x.h).2]) (fun _ => True) rfl rfl rfl (fun _ => rfl) (fun w1 hI1 => Search_ok x.hc (hg _ hI1.frm).h (rd_lt (hg _ hI1.frm).h) (by have := hx0.hl; omega) hx0.hg) ?_
    rintro ⟨yo, yc⟩ _ hnew
    (refine gs ?_)
    refine gw ?_
    refine n_callX [] _ rfl (fun w1 hI1 => hI1.absorb 10 11 (by decide) rfl rfl rfl rfl rfl rfl) ?_
    refine n_callR (Y := Kl) 10 (fun L' => klRes b1 L') (fun _ => .tup []) (fun _ => .tuple #[]) (fun L' => ∃ e : Le, e.xs = (searchF x.h).1 ∧ L'.E = L.E ++ [e]) rfl rfl (fun _ => rfl) rfl rfl rfl (fun _ w1 _ hI1 hR1 => lput_ok (by omega) (by omega) hR1) ?_
    rintro L2 ⟨e, he, hL'⟩
    have hLl2 : L2.E.length = L.E.length + 1 := by rw [hL']; simp
    have hLx2 : ∀ e ∈ L2.E, e.xs.length ≤ 13 := fun e' h => by
      rw [hL'] at h
      rcases List.mem_append.1 h with h | h
      · exact hLx e' h
      · simp at h; subst h; rw [he]; exact hsl
    clear hL' he e
    (refine gs ?_)
    refine gw ?_
    (first | (refine n_ldI (.raw (.slice x.ho x.h.length x.hc)) rfl rfl (fun _ w1 _ hI1 => load_cell aggPasts (rd_at cs_len (hL1 _ hI1.frm) hx (j := 0) (by omega) rfl (add_add _ _ _))) ?_; (refine gs ?_)) | (refine n_ldDI (.raw (.slice x.ho x.h.length x.hc)) rfl rfl (fun _ w1 _ hI1 => load_cell aggPasts (rd_at cs_len (hL1 _ hI1.frm) hx (j := 0) (by omega) rfl (add_add _ _ _))) ?_; (refine gs ?_)) | (refine n_ldRI (.raw (.slice x.ho x.h.length x.hc)) rfl (fun _ w1 _ hI1 => load_cell aggPasts (rd_at cs_len (hL1 _ hI1.frm) hx (j := 0) (by omega) rfl (add_add _ _ _))) ?_; (refine gs ?_)))
    (repeat ((first | refine n_must rfl ?_ | refine n_chk (drawF_ok (by decide +kernel)) ?_ | refine n_same rfl ?_ | ((first | refine n_must ?_ ?_ | refine n_brT ?_ ?_); (focus (first | (simp [hil]; done) | (simp [hil]; omega) | (simp only [hil]; simp; done)))) | (refine n_brF ?_ ?_; (focus (first | (simp [hil]; done) | (simp [hil]; omega) | (simp only [hil]; simp; done)))) | refine n_must (by (with_reducible refine and_shape ?_) <;> kernel_rfl) ?_); (refine gs ?_)))
    refine n_callN (fun y : Option Addr × Nat => oRes y (searchF x.h).1) 3 (fun y => .tup [.raw (.slice y.1 (searchF x.h).1.length y.2), .int .i64 (searchF x.h).2]) (fun y => .tuple #[.slice y.1 (searchF x.h).1.length y.2, .int .i64 (searchF x.h).2]) (fun _ => True) rfl rfl rfl (fun _ => rfl) (fun w1 hI1 => Search_ok x.hc (hg _ hI1.frm).h (rd_lt (hg _ hI1.frm).h) (by have := hx0.hl; omega) hx0.hg) ?_
    rintro ⟨yo, yc⟩ _ hnew
    (refine gs ?_)
    refine gw ?_
    refine n_callX [] _ rfl (fun w1 hI1 => hI1.absorb 10 12 (by decide) rfl rfl rfl rfl rfl rfl) ?_
    refine n_callR (Y := Kl) 10 (fun L' => klRes b1 L') (fun _ => .tup []) (fun _ => .tuple #[]) (fun L' => ∃ e : Le, e.xs = (searchF x.h).1 ∧ L'.E = L2.E ++ [e]) rfl rfl (fun _ => rfl) rfl rfl rfl (fun _ w1 _ hI1 hR1 => lput_ok (by omega) (by omega) hR1) ?_
    rintro L3 ⟨e, he, hL'⟩
    have hLl3 : L3.E.length = L2.E.length + 1 := by rw [hL']; simp
    have hLx3 : ∀ e ∈ L3.E, e.xs.length ≤ 13 := fun e' h => by
      rw [hL'] at h
      rcases List.mem_append.1 h with h | h
      · exact hLx2 e' h
      · simp at h; subst h; rw [he]; exact hsl
    clear hL' he e
    (refine gs ?_)
    refine gw ?_
    (first | (refine n_ldI (.raw (.slice x.ho x.h.length x.hc)) rfl rfl (fun _ w1 _ hI1 => load_cell aggPasts (rd_at cs_len (hL1 _ hI1.frm) hx (j := 0) (by omega) rfl (add_add _ _ _))) ?_; (refine gs ?_)) | (refine n_ldDI (.raw (.slice x.ho x.h.length x.hc)) rfl rfl (fun _ w1 _ hI1 => load_cell aggPasts (rd_at cs_len (hL1 _ hI1.frm) hx (j := 0) (by omega) rfl (add_add _ _ _))) ?_; (refine gs ?_)) | (refine n_ldRI (.raw (.slice x.ho x.h.length x.hc)) rfl (fun _ w1 _ hI1 => load_cell aggPasts (rd_at cs_len (hL1 _ hI1.frm) hx (j := 0) (by omega) rfl (add_add _ _ _))) ?_; (refine gs ?_)))
    (repeat ((first | refine n_must rfl ?_ | refine n_chk (drawF_ok (by decide +kernel)) ?_ | refine n_same rfl ?_ | ((first | refine n_must ?_ ?_ | refine n_brT ?_ ?_); (focus (first | (simp [hil]; done) | (simp [hil]; omega) | (simp only [hil]; simp; done)))) | (refine n_brF ?_ ?_; (focus (first | (simp [hil]; done) | (simp [hil]; omega) | (simp only [hil]; simp; done)))) | refine n_must (by (with_reducible refine and_shape ?_) <;> kernel_rfl) ?_); (refine gs ?_)))
    refine n_callN (fun y : Option Addr × Nat => oRes y (searchF x.h).1) 3 (fun y => .tup [.raw (.slice y.1 (searchF x.h).1.length y.2), .int .i64 (searchF x.h).2]) (fun y => .tuple #[.slice y.1 (searchF x.h).1.length y.2, .int .i64 (searchF x.h).2]) (fun _ => True) rfl rfl rfl (fun _ => rfl) (fun w1 hI1 => Search_ok x.hc (hg _ hI1.frm).h (rd_lt (hg _ hI1.frm).h) (by have := hx0.hl; omega) hx0.hg) ?_
    rintro ⟨yo, yc⟩ _ hnew
    (refine gs ?_)
    refine gw ?_
    refine n_callX [] _ rfl (fun w1 hI1 => hI1.absorb 5 13 (by decide) rfl rfl rfl rfl rfl rfl) ?_
    refine n_callR (Y := Kp) 5 (fun K' => kpRes b0 K') (fun _ => .tup []) (fun _ => .tuple #[]) (fun K' => K'.ok ∧ K'.Ls.length ≤ K.Ls.length + 41) rfl rfl (fun _ => rfl) rfl rfl rfl (fun _ w1 _ hI1 hR1 => kput_ok (by simp) (by omega) hK (by omega) hR1) ?_
    rintro K' ⟨hK', hKl'⟩
    (refine gs ?_)
    refine gw ?_
    exact n_again ⟨(i + 1, K', L3), ⟨by dsimp only; omega, hK', by dsimp only; omega, by dsimp only; omega, hLx3⟩, by dsimp only; omega, (by (repeat (first | exact trivial | refine ⟨⟨rfl, rfl⟩, ?_⟩ | refine ⟨⟨rfl, congrArg (SV.int .i64) ei⟩, ?_⟩))), ⟨_, rfl⟩⟩
  · obtain rfl : i = C.length := by omega
    refine gw ?_
    refine n_exit rfl ?_
    (refine gs ?_)
    refine gw ?_
    refine n_sameP (.bool true) rfl rfl rfl (fun _ w1 hp1 hI1 => kwhole_ok hK (by omega) (hI1.res 5 rfl rfl)) ?_; (refine gs ?_)
    refine gw ?_
    refine n_callR (Y := Unit) 10 (fun _ => Res.none) (fun _ => .bool true) (fun _ => .bool true) (fun _ => True) rfl rfl (fun _ => rfl) rfl rfl rfl (fun _ w1 _ hI1 hR1 => (klwhole_ok (by omega) (fun e he => by have := hLx e he; omega) hR1).mono fun e w' ⟨he, hf⟩ => ⟨(), he, trivial, hf, trivial, by simp [Res.none], by simp [Res.none]⟩) ?_
    intro _ _
    (refine gs ?_)
    refine gw ?_
    exact n_ret0 rfl rfl fun ids' w' hp hI' => ⟨rfl, hI'.frm⟩
end Go.Proofs.Ytfcbcgjgkleonaa
