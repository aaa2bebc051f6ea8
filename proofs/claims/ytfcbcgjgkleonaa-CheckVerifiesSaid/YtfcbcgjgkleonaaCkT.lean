/- Chapter 17's law: verifies. -/
import Derived.Test.YtfcbcgjgkleonaaCkS
set_option maxRecDepth 100000
set_option linter.unusedSimpArgs false
set_option linter.unusedVariables false
set_option maxHeartbeats 8000000
namespace Go.Proofs.Ytfcbcgjgkleonaa
open Go.RowKit

theorem verifies_ok {o : Option Addr} {L : List Pa} {oe : Option Addr} {E : List Ef} {w : World} (cap cape : Nat) (hR : (paRes o L).R w) (hlt : ∀ x ∈ (paRes o L).fp, x < w.heap.size) (hE : (efRes oe E).R w) (hElt : ∀ x ∈ (efRes oe E).fp, x < w.heap.size)
    (hl : L.length ≤ 1599289640390) (hle : E.length ≤ 1759218604390) (hL64 : ∀ p ∈ L, i64 p.se ∧ i64 p.id) (hEg : ∀ e ∈ E, e.good) :
    Calls Try.prog 9 #[.slice o L.length cap, .slice oe E.length cape] w fun x w' => x = .returned (.bool true) ∧ Frm [] w w' := by
  obtain ⟨it, hit, hparts⟩ := Option.map_eq_some_iff.1 infoEff
  simp only [Prod.mk.injEq] at hparts
  have hI := Inv.nil (P := Try.prog) (N := 78) (S := []) (os := [(3, .then [(0, []), (1, []), (2, []), (4, []), (5, []), (6, [])] (.fork 3 [] (.of [(7, []), (8, []), (9, []), (10, []), (11, []), (12, []), (13, [])]) (.cons 7 [] (.of [(3, []), (8, []), (9, []), (10, []), (11, []), (12, []), (13, [])]))))]) w
  have hE1 : ∀ w1, Frm [] w w1 → (efRes oe E).R w1 := fun w1 hf => (efRes oe E).stable _ _ (fun k hk => hf.block k (hElt k hk) (by simp)) hE
  have hElt1 : ∀ w1, Frm [] w w1 → ∀ x ∈ (efRes oe E).fp, x < w1.heap.size := fun w1 hf x hx => Nat.lt_of_lt_of_le (hElt x hx) hf.size
  have hL1 : ∀ w1, Frm [] w w1 → (paRes o L).R w1 := fun w1 hf => (paRes o L).stable _ _ (fun k hk => hf.block k (hlt k hk) (by simp)) hR
  have hLlt1 : ∀ w1, Frm [] w w1 → ∀ x ∈ (paRes o L).fp, x < w1.heap.size := fun w1 hf x hx => Nat.lt_of_lt_of_le (hlt x hx) hf.size
  refine calls_sm (cx 78 [(3, .then [(0, []), (1, []), (2, []), (4, []), (5, []), (6, [])] (.fork 3 [] (.of [(7, []), (8, []), (9, []), (10, []), (11, []), (12, []), (13, [])]) (.cons 7 [] (.of [(3, []), (8, []), (9, []), (10, []), (11, []), (12, []), (13, [])]))))] [] w) (vals := [.raw (.slice o L.length cap), .raw (.slice oe E.length cape)]) mixed Try.func9 rfl rfl rfl hI rfl (st rfl ?_); conv => arg 3; whnf
  (repeat ((first | refine n_must rfl ?_ | refine n_chk (drawF_ok (by decide +kernel)) ?_ | refine n_same rfl ?_ | (refine n_brT ?_ ?_; (focus (simp <;> fail))) | (refine n_brF ?_ ?_; (focus (simp <;> fail)))); (refine st rfl ?_; conv => arg 3; whnf)))
  refine n_callN (fun y : Nat × Nat => paRow (some ⟨y.1, 0, none⟩, y.2) (L ++ [paMark])) 55 (fun y => .raw (.slice (some ⟨y.1, 0, none⟩) (L.length + 1) y.2)) (fun y => .slice (some ⟨y.1, 0, none⟩) (L.length + 1) y.2) (fun y => L.length + 1 ≤ y.2) rfl rfl rfl (fun _ => rfl) (fun w1 hI1 => lent_ok cap (hL1 _ hI1.frm) (hLlt1 _ hI1.frm) hl) ?_
  rintro ⟨gx, cx'⟩ hcx hnx
  dsimp only at hcx
  (refine st rfl ?_; conv => arg 3; whnf)
  (repeat ((first | refine n_must rfl ?_ | refine n_chk (drawF_ok (by decide +kernel)) ?_ | refine n_same rfl ?_ | ((first | refine n_must ?_ ?_ | refine n_brT ?_ ?_); (focus (first | (simp; done) | (simp; omega)))) | (refine n_brF ?_ ?_; (focus (first | (simp; done) | (simp; omega)))) | refine n_must (by (with_reducible refine and_shape ?_) <;> kernel_rfl) ?_); (refine st rfl ?_; conv => arg 3; whnf)))
  refine n_appendN (nv := E.flatMap Ef.l) rfl rfl rfl elemEff hit hparts.1 hparts.2.1 hparts.2.2 rfl (by omega) rfl rfl (by rw [flat_len ef_len]) (fun _ w1 _ hI1 => hE1 _ hI1.frm) (one_ef E) (by omega) (by omega) ?_
  intro ye hye
  (refine st rfl ?_; conv => arg 3; whnf)
  (repeat ((first | refine n_must rfl ?_ | refine n_chk (drawF_ok (by decide +kernel)) ?_ | refine n_same rfl ?_ | ((first | refine n_must ?_ ?_ | refine n_brT ?_ ?_); (focus (first | (simp; done) | (simp; omega)))) | (refine n_brF ?_ ?_; (focus (first | (simp; done) | (simp; omega)))) | refine n_must (by (with_reducible refine and_shape ?_) <;> kernel_rfl) ?_); (refine st rfl ?_; conv => arg 3; whnf)))
  refine n_build1 rfl rfl elemEff rfl rfl rfl rfl rfl rfl rfl rfl rfl ?_
  (refine st rfl ?_; conv => arg 3; whnf)
  (repeat ((first | refine n_must rfl ?_ | refine n_chk (drawF_ok (by decide +kernel)) ?_ | refine n_same rfl ?_ | ((first | refine n_must ?_ ?_ | refine n_brT ?_ ?_); (focus (first | (simp; done) | (simp; omega)))) | (refine n_brF ?_ ?_; (focus (first | (simp; done) | (simp; omega)))) | refine n_must (by (with_reducible refine and_shape ?_) <;> kernel_rfl) ?_); (refine st rfl ?_; conv => arg 3; whnf)))
  refine n_append (nv := efMark.l) 1 rfl rfl elemEff hit hparts.1 hparts.2.1 hparts.2.2 rfl (by omega) rfl rfl rfl rfl rfl rfl (by omega) (by simp [Value.oneCell']) (by omega) (by omega) (show E.flatMap Ef.l ++ efMark.l = (E ++ [efMark]).flatMap Ef.l by simp) fun ge ce => ?_
  (refine st rfl ?_; conv => arg 3; whnf)
  have hxP : ∀ {w1}, (paRow (some ⟨gx, 0, none⟩, cx') (L ++ [paMark])).R w1 → (paRes (some ⟨gx, 0, none⟩) L).R w1 := fun h => rd_pre (ys := paMark.l) (by have := rd_of_row h; simpa using this)
  have hyP : ∀ {w1}, (rowRes 52 9 (some ⟨ge, 0, none⟩) (E.length + 1) ce ((E ++ [efMark]).flatMap Ef.l)).R w1 → (efRes (some ⟨ge, 0, none⟩) E).R w1 := fun h => rd_pre (ys := efMark.l) (by have := rd_of_row h; simpa using this)
  (repeat ((first | refine n_must rfl ?_ | refine n_chk (drawF_ok (by decide +kernel)) ?_ | refine n_same rfl ?_ | ((first | refine n_must ?_ ?_ | refine n_brT ?_ ?_); (focus (first | (simp; done) | (simp; omega)))) | (refine n_brF ?_ ?_; (focus (first | (simp; done) | (simp; omega)))) | refine n_must (by (with_reducible refine and_shape ?_) <;> kernel_rfl) ?_); (refine st rfl ?_; conv => arg 3; whnf)))
  refine n_both ?_ ?_
  · (refine st rfl ?_; conv => arg 3; whnf)
    (repeat ((first | refine n_must rfl ?_ | refine n_chk (drawF_ok (by decide +kernel)) ?_ | refine n_same rfl ?_ | ((first | refine n_must ?_ ?_ | refine n_brT ?_ ?_); (focus (first | (simp; done) | (simp; omega)))) | (refine n_brF ?_ ?_; (focus (first | (simp; done) | (simp; omega)))) | refine n_must (by (with_reducible refine and_shape ?_) <;> kernel_rfl) ?_); (refine st rfl ?_; conv => arg 3; whnf)))
    refine n_sliceHi (n := L.length) rfl rfl elemPast sizePast rfl rfl (by omega) ?_
    (refine st rfl ?_; conv => arg 3; whnf)
    (repeat ((first | refine n_must rfl ?_ | refine n_chk (drawF_ok (by decide +kernel)) ?_ | refine n_same rfl ?_ | ((first | refine n_must ?_ ?_ | refine n_brT ?_ ?_); (focus (first | (simp; done) | (simp; omega)))) | (refine n_brF ?_ ?_; (focus (first | (simp; done) | (simp; omega)))) | refine n_must (by (with_reducible refine and_shape ?_) <;> kernel_rfl) ?_); (refine st rfl ?_; conv => arg 3; whnf)))
    refine n_opF (P := E.length + 1 ≤ ce) (fun _ w1 _ hI1 => row_cap (hI1.res 1 rfl rfl) (by omega)) fun hce => ?_
    refine n_sliceHi (n := E.length) rfl rfl elemEff sizeEff rfl rfl (by omega) ?_
    (refine st rfl ?_; conv => arg 3; whnf)
    (repeat ((first | refine n_must rfl ?_ | refine n_chk (drawF_ok (by decide +kernel)) ?_ | refine n_same rfl ?_ | ((first | refine n_must ?_ ?_ | refine n_brT ?_ ?_); (focus (first | (simp; done) | (simp; omega)))) | (refine n_brF ?_ ?_; (focus (first | (simp; done) | (simp; omega)))) | refine n_must (by (with_reducible refine and_shape ?_) <;> kernel_rfl) ?_); (refine st rfl ?_; conv => arg 3; whnf)))
    refine n_sameP (ansS (verF L E (alR E)).1 (verF L E (alR E)).2) rfl rfl rfl (fun _ w1 hp1 hI1 => (by have h := cVerify_ok (o := some ⟨gx, 0, none⟩) (L := L) (oe := some ⟨ge, 0, none⟩) (E := E) (w := w1) cx' ce (hxP (hI1.res 0 rfl rfl)) (fun x hx => hI1.resLt 0 rfl rfl x hx) (hyP (hI1.res 1 rfl rfl)) (fun x hx => hI1.resLt 1 rfl rfl x hx) (fun x hx hm => hI1.res_res 0 1 (by decide) rfl rfl rfl rfl x hx hm) (by omega) hle hL64 hEg; rw [verF_eq] at h; exact h)) ?_; (refine st rfl ?_; conv => arg 3; whnf)
    (repeat ((first | refine n_must rfl ?_ | refine n_chk (drawF_ok (by decide +kernel)) ?_ | refine n_same rfl ?_ | ((first | refine n_must ?_ ?_ | refine n_brT ?_ ?_); (focus (first | (simp; done) | (simp; omega)))) | (refine n_brF ?_ ?_; (focus (first | (simp; done) | (simp; omega)))) | refine n_must (by (with_reducible refine and_shape ?_) <;> kernel_rfl) ?_); (refine st rfl ?_; conv => arg 3; whnf)))
    refine n_sameP (ansS (verF L E (alR E)).1 (verF L E (alR E)).2) rfl rfl rfl (fun _ w1 hp1 hI1 => rVerify_ok cap cape (hL1 _ hI1.frm) (hLlt1 _ hI1.frm) (hE1 _ hI1.frm) (hElt1 _ hI1.frm) (by omega) hle) ?_; (refine st rfl ?_; conv => arg 3; whnf)
    generalize verF L E (alR E) = VR
    (repeat ((first | refine n_must rfl ?_ | refine n_chk (drawF_ok (by decide +kernel)) ?_ | refine n_same rfl ?_ | ((first | refine n_must ?_ ?_ | refine n_brT ?_ ?_); (focus (first | (simp; done) | (simp; omega)))) | (refine n_brF ?_ ?_; (focus (first | (simp; done) | (simp; omega)))) | refine n_must (by (with_reducible refine and_shape ?_) <;> kernel_rfl) ?_); (refine st rfl ?_; conv => arg 3; whnf)))
    refine n_sliceHi (n := L.length) rfl rfl elemPast sizePast rfl rfl (by omega) ?_
    (refine st rfl ?_; conv => arg 3; whnf)
    (repeat ((first | refine n_must rfl ?_ | refine n_chk (drawF_ok (by decide +kernel)) ?_ | refine n_same rfl ?_ | ((first | refine n_must ?_ ?_ | refine n_brT ?_ ?_); (focus (first | (simp; done) | (simp; omega)))) | (refine n_brF ?_ ?_; (focus (first | (simp; done) | (simp; omega)))) | refine n_must (by (with_reducible refine and_shape ?_) <;> kernel_rfl) ?_); (refine st rfl ?_; conv => arg 3; whnf)))
    refine n_sameP (.bool true) rfl rfl rfl (fun _ w1 hp1 hI1 => samePast_ok cx' cap (hxP (hI1.res 0 rfl rfl)) (fun x hx => hI1.resLt 0 rfl rfl x hx) (hL1 _ hI1.frm) (hLlt1 _ hI1.frm) (fun x hx hm => by have h1 := hI1.res_new 0 rfl rfl rfl (by simp) x hx; have h2 := hlt x hm; exact absurd h2 (Nat.not_lt.2 h1)) (by omega)) ?_; (refine st rfl ?_; conv => arg 3; whnf)
    (repeat ((first | refine n_must rfl ?_ | refine n_chk (drawF_ok (by decide +kernel)) ?_ | refine n_same rfl ?_ | ((first | refine n_must ?_ ?_ | refine n_brT ?_ ?_); (focus (first | (simp; done) | (simp; omega)))) | (refine n_brF ?_ ?_; (focus (first | (simp; done) | (simp; omega)))) | refine n_must (by (with_reducible refine and_shape ?_) <;> kernel_rfl) ?_); (refine st rfl ?_; conv => arg 3; whnf)))
    refine n_ldI (.int .i64 (-77)) rfl rfl (fun _ w1 _ hI1 => load_cell aggInt (row_at pa_len (hI1.res 0 rfl rfl) (i := L.length) (x := paMark) (by simp) (j := 6) (by omega) rfl (addT ⟨gx, 0, none⟩ L.length 10 6))) ?_
    (refine st rfl ?_; conv => arg 3; whnf)
    (repeat ((first | refine n_must rfl ?_ | refine n_chk (drawF_ok (by decide +kernel)) ?_ | refine n_same rfl ?_ | ((first | refine n_must ?_ ?_ | refine n_brT ?_ ?_); (focus (first | (simp; done) | (simp; omega)))) | (refine n_brF ?_ ?_; (focus (first | (simp; done) | (simp; omega)))) | refine n_must (by (with_reducible refine and_shape ?_) <;> kernel_rfl) ?_); (refine st rfl ?_; conv => arg 3; whnf)))
    refine n_opF (P := E.length + 1 ≤ ce) (fun _ w1 _ hI1 => row_cap (hI1.res 1 rfl rfl) (by omega)) fun hce => ?_
    refine n_sliceHi (n := E.length) rfl rfl elemEff sizeEff rfl rfl (by omega) ?_
    (refine st rfl ?_; conv => arg 3; whnf)
    (repeat ((first | refine n_must rfl ?_ | refine n_chk (drawF_ok (by decide +kernel)) ?_ | refine n_same rfl ?_ | ((first | refine n_must ?_ ?_ | refine n_brT ?_ ?_); (focus (first | (simp; done) | (simp; omega)))) | (refine n_brF ?_ ?_; (focus (first | (simp; done) | (simp; omega)))) | refine n_must (by (with_reducible refine and_shape ?_) <;> kernel_rfl) ?_); (refine st rfl ?_; conv => arg 3; whnf)))
    refine n_sameP (.bool true) rfl rfl rfl (fun _ w1 hp1 hI1 => sameEffects_ok ce cape (hyP (hI1.res 1 rfl rfl)) (fun x hx => hI1.resLt 1 rfl rfl x hx) (hE1 _ hI1.frm) (hElt1 _ hI1.frm) (fun x hx hm => by have h1 := hI1.res_new 1 rfl rfl rfl (by simp) x hx; have h2 := hElt x hm; exact absurd h2 (Nat.not_lt.2 h1)) (by omega)) ?_; (refine st rfl ?_; conv => arg 3; whnf)
    (repeat ((first | refine n_must rfl ?_ | refine n_chk (drawF_ok (by decide +kernel)) ?_ | refine n_same rfl ?_ | ((first | refine n_must ?_ ?_ | refine n_brT ?_ ?_); (focus (first | (simp; done) | (simp; omega)))) | (refine n_brF ?_ ?_; (focus (first | (simp; done) | (simp; omega)))) | refine n_must (by (with_reducible refine and_shape ?_) <;> kernel_rfl) ?_); (refine st rfl ?_; conv => arg 3; whnf)))
    refine n_ldI (.int .i64 (-77)) rfl rfl (fun _ w1 _ hI1 => load_cell aggInt (row_at ef_len (hI1.res 1 rfl rfl) (i := E.length) (x := efMark) (by simp) (j := 0) (by omega) rfl (addT ⟨ge, 0, none⟩ E.length 9 0))) ?_
    (refine st rfl ?_; conv => arg 3; whnf)
    (repeat ((first | refine n_must rfl ?_ | refine n_chk (drawF_ok (by decide +kernel)) ?_ | refine n_same rfl ?_ | ((first | refine n_must ?_ ?_ | refine n_brT ?_ ?_); (focus (first | (simp; done) | (simp; omega)))) | (refine n_brF ?_ ?_; (focus (first | (simp; done) | (simp; omega)))) | refine n_must (by (with_reducible refine and_shape ?_) <;> kernel_rfl) ?_); (refine st rfl ?_; conv => arg 3; whnf)))
    exact n_ret0 rfl rfl fun ids' w' hp hI' => ⟨rfl, hI'.frm⟩
  · (refine st rfl ?_; conv => arg 3; whnf)
    (repeat ((first | refine n_must rfl ?_ | refine n_chk (drawF_ok (by decide +kernel)) ?_ | refine n_same rfl ?_ | ((first | refine n_must ?_ ?_ | refine n_brT ?_ ?_); (focus (first | (simp; done) | (simp; omega)))) | (refine n_brF ?_ ?_; (focus (first | (simp; done) | (simp; omega)))) | refine n_must (by (with_reducible refine and_shape ?_) <;> kernel_rfl) ?_); (refine st rfl ?_; conv => arg 3; whnf)))
    refine n_opF (P := E.length + 1 ≤ ce) (fun _ w1 _ hI1 => row_cap (hI1.res 1 rfl rfl) (by omega)) fun hce => ?_
    refine n_sliceHi (n := E.length) rfl rfl elemEff sizeEff rfl rfl (by omega) ?_
    (refine st rfl ?_; conv => arg 3; whnf)
    (repeat ((first | refine n_must rfl ?_ | refine n_chk (drawF_ok (by decide +kernel)) ?_ | refine n_same rfl ?_ | ((first | refine n_must ?_ ?_ | refine n_brT ?_ ?_); (focus (first | (simp; done) | (simp; omega)))) | (refine n_brF ?_ ?_; (focus (first | (simp; done) | (simp; omega)))) | refine n_must (by (with_reducible refine and_shape ?_) <;> kernel_rfl) ?_); (refine st rfl ?_; conv => arg 3; whnf)))
    refine n_sliceHi (n := L.length) rfl rfl elemPast sizePast rfl rfl (by omega) ?_
    (refine st rfl ?_; conv => arg 3; whnf)
    (repeat ((first | refine n_must rfl ?_ | refine n_chk (drawF_ok (by decide +kernel)) ?_ | refine n_same rfl ?_ | ((first | refine n_must ?_ ?_ | refine n_brT ?_ ?_); (focus (first | (simp; done) | (simp; omega)))) | (refine n_brF ?_ ?_; (focus (first | (simp; done) | (simp; omega)))) | refine n_must (by (with_reducible refine and_shape ?_) <;> kernel_rfl) ?_); (refine st rfl ?_; conv => arg 3; whnf)))
    refine n_sameP (ansS (verF L E (alR E)).1 (verF L E (alR E)).2) rfl rfl rfl (fun _ w1 hp1 hI1 => (by have h := cVerify_ok (o := some ⟨gx, 0, none⟩) (L := L) (oe := some ⟨ge, 0, none⟩) (E := E) (w := w1) cx' ce (hxP (hI1.res 0 rfl rfl)) (fun x hx => hI1.resLt 0 rfl rfl x hx) (hyP (hI1.res 1 rfl rfl)) (fun x hx => hI1.resLt 1 rfl rfl x hx) (fun x hx hm => hI1.res_res 0 1 (by decide) rfl rfl rfl rfl x hx hm) (by omega) hle hL64 hEg; rw [verF_eq] at h; exact h)) ?_; (refine st rfl ?_; conv => arg 3; whnf)
    (repeat ((first | refine n_must rfl ?_ | refine n_chk (drawF_ok (by decide +kernel)) ?_ | refine n_same rfl ?_ | ((first | refine n_must ?_ ?_ | refine n_brT ?_ ?_); (focus (first | (simp; done) | (simp; omega)))) | (refine n_brF ?_ ?_; (focus (first | (simp; done) | (simp; omega)))) | refine n_must (by (with_reducible refine and_shape ?_) <;> kernel_rfl) ?_); (refine st rfl ?_; conv => arg 3; whnf)))
    refine n_sameP (ansS (verF L E (alR E)).1 (verF L E (alR E)).2) rfl rfl rfl (fun _ w1 hp1 hI1 => rVerify_ok cap cape (hL1 _ hI1.frm) (hLlt1 _ hI1.frm) (hE1 _ hI1.frm) (hElt1 _ hI1.frm) (by omega) hle) ?_; (refine st rfl ?_; conv => arg 3; whnf)
    generalize verF L E (alR E) = VR
    (repeat ((first | refine n_must rfl ?_ | refine n_chk (drawF_ok (by decide +kernel)) ?_ | refine n_same rfl ?_ | ((first | refine n_must ?_ ?_ | refine n_brT ?_ ?_); (focus (first | (simp; done) | (simp; omega)))) | (refine n_brF ?_ ?_; (focus (first | (simp; done) | (simp; omega)))) | refine n_must (by (with_reducible refine and_shape ?_) <;> kernel_rfl) ?_); (refine st rfl ?_; conv => arg 3; whnf)))
    refine n_sliceHi (n := L.length) rfl rfl elemPast sizePast rfl rfl (by omega) ?_
    (refine st rfl ?_; conv => arg 3; whnf)
    (repeat ((first | refine n_must rfl ?_ | refine n_chk (drawF_ok (by decide +kernel)) ?_ | refine n_same rfl ?_ | ((first | refine n_must ?_ ?_ | refine n_brT ?_ ?_); (focus (first | (simp; done) | (simp; omega)))) | (refine n_brF ?_ ?_; (focus (first | (simp; done) | (simp; omega)))) | refine n_must (by (with_reducible refine and_shape ?_) <;> kernel_rfl) ?_); (refine st rfl ?_; conv => arg 3; whnf)))
    refine n_sameP (.bool true) rfl rfl rfl (fun _ w1 hp1 hI1 => samePast_ok cx' cap (hxP (hI1.res 0 rfl rfl)) (fun x hx => hI1.resLt 0 rfl rfl x hx) (hL1 _ hI1.frm) (hLlt1 _ hI1.frm) (fun x hx hm => by have h1 := hI1.res_new 0 rfl rfl rfl (by simp) x hx; have h2 := hlt x hm; exact absurd h2 (Nat.not_lt.2 h1)) (by omega)) ?_; (refine st rfl ?_; conv => arg 3; whnf)
    (repeat ((first | refine n_must rfl ?_ | refine n_chk (drawF_ok (by decide +kernel)) ?_ | refine n_same rfl ?_ | ((first | refine n_must ?_ ?_ | refine n_brT ?_ ?_); (focus (first | (simp; done) | (simp; omega)))) | (refine n_brF ?_ ?_; (focus (first | (simp; done) | (simp; omega)))) | refine n_must (by (with_reducible refine and_shape ?_) <;> kernel_rfl) ?_); (refine st rfl ?_; conv => arg 3; whnf)))
    refine n_ldI (.int .i64 (-77)) rfl rfl (fun _ w1 _ hI1 => load_cell aggInt (row_at pa_len (hI1.res 0 rfl rfl) (i := L.length) (x := paMark) (by simp) (j := 6) (by omega) rfl (addT ⟨gx, 0, none⟩ L.length 10 6))) ?_
    (refine st rfl ?_; conv => arg 3; whnf)
    (repeat ((first | refine n_must rfl ?_ | refine n_chk (drawF_ok (by decide +kernel)) ?_ | refine n_same rfl ?_ | ((first | refine n_must ?_ ?_ | refine n_brT ?_ ?_); (focus (first | (simp; done) | (simp; omega)))) | (refine n_brF ?_ ?_; (focus (first | (simp; done) | (simp; omega)))) | refine n_must (by (with_reducible refine and_shape ?_) <;> kernel_rfl) ?_); (refine st rfl ?_; conv => arg 3; whnf)))
    refine n_opF (P := E.length + 1 ≤ ce) (fun _ w1 _ hI1 => row_cap (hI1.res 1 rfl rfl) (by omega)) fun hce => ?_
    refine n_sliceHi (n := E.length) rfl rfl elemEff sizeEff rfl rfl (by omega) ?_
    (refine st rfl ?_; conv => arg 3; whnf)
    (repeat ((first | refine n_must rfl ?_ | refine n_chk (drawF_ok (by decide +kernel)) ?_ | refine n_same rfl ?_ | ((first | refine n_must ?_ ?_ | refine n_brT ?_ ?_); (focus (first | (simp; done) | (simp; omega)))) | (refine n_brF ?_ ?_; (focus (first | (simp; done) | (simp; omega)))) | refine n_must (by (with_reducible refine and_shape ?_) <;> kernel_rfl) ?_); (refine st rfl ?_; conv => arg 3; whnf)))
    refine n_sameP (.bool true) rfl rfl rfl (fun _ w1 hp1 hI1 => sameEffects_ok ce cape (hyP (hI1.res 1 rfl rfl)) (fun x hx => hI1.resLt 1 rfl rfl x hx) (hE1 _ hI1.frm) (hElt1 _ hI1.frm) (fun x hx hm => by have h1 := hI1.res_new 1 rfl rfl rfl (by simp) x hx; have h2 := hElt x hm; exact absurd h2 (Nat.not_lt.2 h1)) (by omega)) ?_; (refine st rfl ?_; conv => arg 3; whnf)
    (repeat ((first | refine n_must rfl ?_ | refine n_chk (drawF_ok (by decide +kernel)) ?_ | refine n_same rfl ?_ | ((first | refine n_must ?_ ?_ | refine n_brT ?_ ?_); (focus (first | (simp; done) | (simp; omega)))) | (refine n_brF ?_ ?_; (focus (first | (simp; done) | (simp; omega)))) | refine n_must (by (with_reducible refine and_shape ?_) <;> kernel_rfl) ?_); (refine st rfl ?_; conv => arg 3; whnf)))
    refine n_ldI (.int .i64 (-77)) rfl rfl (fun _ w1 _ hI1 => load_cell aggInt (row_at ef_len (hI1.res 1 rfl rfl) (i := E.length) (x := efMark) (by simp) (j := 0) (by omega) rfl (addT ⟨ge, 0, none⟩ E.length 9 0))) ?_
    (refine st rfl ?_; conv => arg 3; whnf)
    (repeat ((first | refine n_must rfl ?_ | refine n_chk (drawF_ok (by decide +kernel)) ?_ | refine n_same rfl ?_ | ((first | refine n_must ?_ ?_ | refine n_brT ?_ ?_); (focus (first | (simp; done) | (simp; omega)))) | (refine n_brF ?_ ?_; (focus (first | (simp; done) | (simp; omega)))) | refine n_must (by (with_reducible refine and_shape ?_) <;> kernel_rfl) ?_); (refine st rfl ?_; conv => arg 3; whnf)))
    exact n_ret0 rfl rfl fun ids' w' hp hI' => ⟨rfl, hI'.frm⟩
end Go.Proofs.Ytfcbcgjgkleonaa
