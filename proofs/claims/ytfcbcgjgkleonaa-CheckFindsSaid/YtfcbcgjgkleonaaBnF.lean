/- sluiceref16: done: what an op does to its counter. sluiceref16: Do, Allows. sluiceref16: Allows. sluiceref17: histories, effects: Right, Sort, open, place. sluiceref17: Right, place, fits. -/
import Derived.Test.YtfcbcgjgkleonaaBnE
import Derived.Test.YtfcbcgjgkleonaaGath
import Derived.Test.YtfcbcgjgkleonaaBnU
namespace Go.Proofs.Ytfcbcgjgkleonaa
section
set_option maxRecDepth 100000
set_option linter.unusedSimpArgs false
set_option linter.unusedVariables false
set_option maxHeartbeats 8000000
open Go.RowKit

def doneF (c : Rk) (k a b h : Int) : Rk × Int × Int :=
  if k = 2 then (if c.cap < c.v + heldW c.holds + a then (c, 0, 60) else ({ c with v := c.v + a }, 0, 0))
  else if k = 3 then (if c.v < a then (c, 0, 60) else ({ c with v := c.v - a }, 0, 0))
  else if k = 4 then (if c.v < a then (c, 0, 60) else if h < 1 then (c, 0, 1) else if usedR c.used h = true then (c, 0, 1) else ({ c with v := c.v - a, holds := withR c.holds (h, a), used := c.used ++ [h] }, h, 0))
  else if k = 5 ∨ k = 6 ∨ k = 12 then (if amountR c.holds a = 0 then (c, 0, 70) else ({ c with holds := withoutR c.holds a, v := if k = 5 then c.v else c.v + amountR c.holds a }, if k = 12 then 0 else amountR c.holds a, 0))
  else if k = 7 then (c, c.v, 0)
  else if k = 8 then (if c.v ≠ a then (c, 0, 110) else if c.v < b then (c, 0, 60) else ({ c with v := c.v - b }, a, 0))
  else if k = 9 then (if c.cap < a + heldW c.holds then (c, 0, 61) else ({ c with v := a }, a, 0))
  else (if a < c.v + heldW c.holds then (c, 0, 61) else ({ c with cap := a }, a, 0))
structure Rk.in_ (c : Rk) : Prop where
  v : 0 ≤ c.v ∧ c.v ≤ 1099511627776
  h : 0 ≤ heldW c.holds ∧ heldW c.holds ≤ 1099511627776
  m : ∀ x ∈ c.holds, 0 ≤ x.2 ∧ x.2 ≤ 1099511627776
theorem amountR_in {l : List (Int × Int)} (h : ∀ x ∈ l, 0 ≤ x.2 ∧ x.2 ≤ 1099511627776) (n : Int) : 0 ≤ amountR l n ∧ amountR l n ≤ 1099511627776 := by
  induction l with
  | nil => simp [amountR]
  | cons x l ih =>
    unfold amountR
    split
    · exact h x (by simp)
    · exact ih fun y hy => h y (by simp [hy])

/-- Rows join those that stay. -/
theorem ar_post {G : List Rw} {c : Ctx} {w' : World} {ids' : List Nat} {mem' : Mem} (hI : Inv c w' ids' mem') (hS : c.S = (arRes G).fp) (i : Nat) {t : TypeId} (h0 : nth mem' i = some ⟨t, [.res (arRes G)], true⟩) (L : List (Nat × Rw)) (hL : ∀ x ∈ L, ∃ t, nth mem' x.1 = some ⟨t, [.res x.2.res], true⟩) :
    Post (arRes G) (arRes (G ++ L.map (·.2))) c.w0 w' := by
  refine ⟨hS ▸ hI.frm, fun r hr => ?_, fun x hx => ?_, fun x hx => ?_⟩
  · rcases List.mem_append.1 hr with hr | hr
    · exact hI.res i h0 rfl r hr
    · obtain ⟨y, hy, rfl⟩ := List.mem_map.1 hr
      obtain ⟨t', ht⟩ := hL y hy
      exact hI.res y.1 ht rfl
  · obtain ⟨r, hr, hx⟩ := List.mem_flatMap.1 hx
    rcases List.mem_append.1 hr with hr | hr
    · exact .inl (List.mem_flatMap.2 ⟨r, hr, hx⟩)
    · obtain ⟨y, hy, rfl⟩ := List.mem_map.1 hr
      obtain ⟨t', ht⟩ := hL y hy
      rw [← hS]
      exact hI.own y.1 _ ht rfl x (by rw [fpOf_res (r := y.2.res) rfl]; exact hx)
  · obtain ⟨r, hr, hx⟩ := List.mem_flatMap.1 hx
    rcases List.mem_append.1 hr with hr | hr
    · exact hI.resLt i h0 rfl x (List.mem_flatMap.2 ⟨r, hr, hx⟩)
    · obtain ⟨y, hy, rfl⟩ := List.mem_map.1 hr
      obtain ⟨t', ht⟩ := hL y hy
      exact hI.resLt y.1 ht rfl x hx

abbrev uRes (y : Option Addr × Nat) (l : List Int) : Res := rowRes 3 1 y.1 l.length y.2 (ints l)
theorem Done_ok {G : List Rw} {c : Rc} {w : World} (hR : (arRes G).R w) (hc : InG G c) (hin : c.toRk.in_) (hl : c.holds.length ≤ 8000000000000) (hu : c.used.length ≤ 8000000000000) (k : Int) (nm' : ByteArray) (a b h : Int) (hr : rightB k nm' a b = true) :
    Calls Try.prog 52 #[c.val, .agg (opV k nm' a b), .int .i64 h] w fun e w' => ∃ y : Rc × List Rw, e = .returned (.tuple #[y.1.val, .int .i64 (doneF c.toRk k a b h).2.1, .int .i64 (doneF c.toRk k a b h).2.2]) ∧ (y.1.toRk = (doneF c.toRk k a b h).1 ∧ InG y.2 y.1 ∧ ∀ r ∈ G, r ∈ y.2) ∧ Post (arRes G) (arRes y.2) w w' := by
  obtain ⟨iti, hiti, hpi⟩ := Option.map_eq_some_iff.1 infoInt
  simp only [Prod.mk.injEq] at hpi
  obtain ⟨_, r2, r8, r9, _, rk⟩ := right_nums hr
  obtain ⟨⟨nm, cp, v, holds, used⟩, ho, hcp, uo, uc⟩ := c
  obtain ⟨hv, hh, hm⟩ := hin
  dsimp only at hl hu hv hh hm ⊢
  have hI0 : Inv (cx 190 [(3, .of [(0, []), (1, []), (2, []), (5, []), (6, []), (8, []), (9, []), (3, [9, 6, 1]), (4, []), (7, []), (10, [])]), (39, .of [(0, []), (1, []), (2, []), (3, [2]), (4, []), (5, [])]), (46, .of [(0, []), (1, []), (2, []), (3, [2]), (4, []), (5, [])]), (48, .of [(0, []), (1, []), (2, []), (5, []), (6, []), (3, [6, 1]), (4, []), (7, [])]), (51, .of [(0, []), (1, []), (2, []), (3, [2]), (4, []), (5, [])]), (52, .of [(0, []), (1, []), (2, []), (5, []), (6, []), (3, [6, 1]), (4, []), (7, [])]), (55, .of [(0, []), (1, []), (2, []), (3, [2]), (4, []), (5, [])])] (arRes G).fp w) w [0] [⟨3, [.res (arRes G)], true⟩] := (Inv.nil w).consR (by simp) hR (arRes_lt hR) (by simp)
  have hI := hI0.consR (t := 3) (rw_ := true) (r := uRes (none, 0) []) (fun x hx => by cases hx) (rowRes_nil _ _ _) (fun x hx => by cases hx) (fun _ x hx => by cases hx)
  refine calls_sm (cx 190 [(3, .of [(0, []), (1, []), (2, []), (5, []), (6, []), (8, []), (9, []), (3, [9, 6, 1]), (4, []), (7, []), (10, [])]), (39, .of [(0, []), (1, []), (2, []), (3, [2]), (4, []), (5, [])]), (46, .of [(0, []), (1, []), (2, []), (3, [2]), (4, []), (5, [])]), (48, .of [(0, []), (1, []), (2, []), (5, []), (6, []), (3, [6, 1]), (4, []), (7, [])]), (51, .of [(0, []), (1, []), (2, []), (3, [2]), (4, []), (5, [])]), (52, .of [(0, []), (1, []), (2, []), (5, []), (6, []), (3, [6, 1]), (4, []), (7, [])]), (55, .of [(0, []), (1, []), (2, []), (3, [2]), (4, []), (5, [])])] (arRes G).fp w) (vals := [.agg (Rc.sv (⟨⟨nm, cp, v, holds, used⟩, ho, hcp, uo, uc⟩ : Rc)), .agg (opS k nm' a b), .int .i64 h]) mixed Try.func52 rfl rfl rfl hI rfl (st rfl ?_); conv => arg 3; whnf
  generalize hD : doneF ⟨nm, cp, v, holds, used⟩ k a b h = D
  by_cases k2 : k = 2
  · subst k2
    have ha := r2 (by omega)
    have e1 : IntKind.i64.wrap (v + heldW holds) = v + heldW holds := w64 (by omega) (by omega)
    have e2 : IntKind.i64.wrap (v + heldW holds + a) = v + heldW holds + a := w64 (by omega) (by omega)
    have e3 : IntKind.i64.wrap (v + a) = v + a := w64 (by omega) (by omega)
    refine gw ?_
    refine n_sameP (.int .i64 (heldW holds)) rfl rfl rfl (fun _ w1 hp1 hI1 => Held_ok (hI1.res 0 rfl rfl) hc (by dsimp only; omega)) ?_; (refine gs ?_)
    by_cases h1 : cp < v + heldW holds + a
    · (repeat ((first | refine n_must rfl ?_ | refine n_chk (drawF_ok (by decide +kernel)) ?_ | refine n_same rfl ?_ | ((first | refine n_must ?_ ?_ | refine n_brT ?_ ?_); (focus (first | (simp [e1, e2, h1]; done) | (simp [e1, e2, h1]; omega) | (simp only [e1, e2, h1]; simp; done)))) | (refine n_brF ?_ ?_; (focus (first | (simp [e1, e2, h1]; done) | (simp [e1, e2, h1]; omega) | (simp only [e1, e2, h1]; simp; done)))) | refine n_must (by (with_reducible refine and_shape ?_) <;> kernel_rfl) ?_); (refine gs ?_)))
      obtain rfl : D = (⟨nm, cp, v, holds, used⟩, 0, 60) := by rw [← hD, doneF, if_pos rfl, if_pos h1]
      exact n_ret0 rfl rfl fun ids' w' hp hI' => ⟨((⟨⟨nm, cp, v, holds, used⟩, ho, hcp, uo, uc⟩ : Rc), G), rfl, ⟨rfl, ⟨hc.h, hc.u⟩, fun _ hr => hr⟩, post_res hI' rfl 0 rfl rfl rfl⟩
    · (repeat ((first | refine n_must rfl ?_ | refine n_chk (drawF_ok (by decide +kernel)) ?_ | refine n_same rfl ?_ | ((first | refine n_must ?_ ?_ | refine n_brT ?_ ?_); (focus (first | (simp [e1, e2, h1]; done) | (simp [e1, e2, h1]; omega) | (simp only [e1, e2, h1]; simp; done)))) | (refine n_brF ?_ ?_; (focus (first | (simp [e1, e2, h1]; done) | (simp [e1, e2, h1]; omega) | (simp only [e1, e2, h1]; simp; done)))) | refine n_must (by (with_reducible refine and_shape ?_) <;> kernel_rfl) ?_); (refine gs ?_)))
      rw [e3]
      obtain rfl : D = (⟨nm, cp, v + a, holds, used⟩, 0, 0) := by rw [← hD, doneF, if_pos rfl, if_neg h1]
      exact n_ret0 rfl rfl fun ids' w' hp hI' => ⟨((⟨⟨nm, cp, v + a, holds, used⟩, ho, hcp, uo, uc⟩ : Rc), G), rfl, ⟨rfl, ⟨hc.h, hc.u⟩, fun _ hr => hr⟩, post_res hI' rfl 0 rfl rfl rfl⟩
  by_cases k3 : k = 3
  · subst k3
    have ha := r2 (by omega)
    have e3 : IntKind.i64.wrap (v - a) = v - a := w64 (by omega) (by omega)
    by_cases h1 : v < a
    · (repeat ((first | refine n_must rfl ?_ | refine n_chk (drawF_ok (by decide +kernel)) ?_ | refine n_same rfl ?_ | ((first | refine n_must ?_ ?_ | refine n_brT ?_ ?_); (focus (first | (simp [h1]; done) | (simp [h1]; omega) | (simp only [h1]; simp; done)))) | (refine n_brF ?_ ?_; (focus (first | (simp [h1]; done) | (simp [h1]; omega) | (simp only [h1]; simp; done)))) | refine n_must (by (with_reducible refine and_shape ?_) <;> kernel_rfl) ?_); (refine gs ?_)))
      obtain rfl : D = (⟨nm, cp, v, holds, used⟩, 0, 60) := by rw [← hD, doneF, if_neg k2, if_pos rfl, if_pos h1]
      exact n_ret0 rfl rfl fun ids' w' hp hI' => ⟨((⟨⟨nm, cp, v, holds, used⟩, ho, hcp, uo, uc⟩ : Rc), G), rfl, ⟨rfl, ⟨hc.h, hc.u⟩, fun _ hr => hr⟩, post_res hI' rfl 0 rfl rfl rfl⟩
    · (repeat ((first | refine n_must rfl ?_ | refine n_chk (drawF_ok (by decide +kernel)) ?_ | refine n_same rfl ?_ | ((first | refine n_must ?_ ?_ | refine n_brT ?_ ?_); (focus (first | (simp [h1]; done) | (simp [h1]; omega) | (simp only [h1]; simp; done)))) | (refine n_brF ?_ ?_; (focus (first | (simp [h1]; done) | (simp [h1]; omega) | (simp only [h1]; simp; done)))) | refine n_must (by (with_reducible refine and_shape ?_) <;> kernel_rfl) ?_); (refine gs ?_)))
      rw [e3]
      obtain rfl : D = (⟨nm, cp, v - a, holds, used⟩, 0, 0) := by rw [← hD, doneF, if_neg k2, if_pos rfl, if_neg h1]
      exact n_ret0 rfl rfl fun ids' w' hp hI' => ⟨((⟨⟨nm, cp, v - a, holds, used⟩, ho, hcp, uo, uc⟩ : Rc), G), rfl, ⟨rfl, ⟨hc.h, hc.u⟩, fun _ hr => hr⟩, post_res hI' rfl 0 rfl rfl rfl⟩
  by_cases k4 : k = 4
  · subst k4
    have ha := r2 (by omega)
    by_cases h1 : v < a
    · (repeat ((first | refine n_must rfl ?_ | refine n_chk (drawF_ok (by decide +kernel)) ?_ | refine n_same rfl ?_ | ((first | refine n_must ?_ ?_ | refine n_brT ?_ ?_); (focus (first | (simp [h1]; done) | (simp [h1]; omega) | (simp only [h1]; simp; done)))) | (refine n_brF ?_ ?_; (focus (first | (simp [h1]; done) | (simp [h1]; omega) | (simp only [h1]; simp; done)))) | refine n_must (by (with_reducible refine and_shape ?_) <;> kernel_rfl) ?_); (refine gs ?_)))
      obtain rfl : D = (⟨nm, cp, v, holds, used⟩, 0, 60) := by rw [← hD, doneF, if_neg k2, if_neg k3, if_pos rfl, if_pos h1]
      exact n_ret0 rfl rfl fun ids' w' hp hI' => ⟨((⟨⟨nm, cp, v, holds, used⟩, ho, hcp, uo, uc⟩ : Rc), G), rfl, ⟨rfl, ⟨hc.h, hc.u⟩, fun _ hr => hr⟩, post_res hI' rfl 0 rfl rfl rfl⟩
    by_cases h2 : h < 1
    · (repeat ((first | refine n_must rfl ?_ | refine n_chk (drawF_ok (by decide +kernel)) ?_ | refine n_same rfl ?_ | ((first | refine n_must ?_ ?_ | refine n_brT ?_ ?_); (focus (first | (simp [h1, h2]; done) | (simp [h1, h2]; omega) | (simp only [h1, h2]; simp; done)))) | (refine n_brF ?_ ?_; (focus (first | (simp [h1, h2]; done) | (simp [h1, h2]; omega) | (simp only [h1, h2]; simp; done)))) | refine n_must (by (with_reducible refine and_shape ?_) <;> kernel_rfl) ?_); (refine gs ?_)))
      obtain rfl : D = (⟨nm, cp, v, holds, used⟩, 0, 1) := by rw [← hD, doneF, if_neg k2, if_neg k3, if_pos rfl, if_neg h1, if_pos h2]
      exact n_ret0 rfl rfl fun ids' w' hp hI' => ⟨((⟨⟨nm, cp, v, holds, used⟩, ho, hcp, uo, uc⟩ : Rc), G), rfl, ⟨rfl, ⟨hc.h, hc.u⟩, fun _ hr => hr⟩, post_res hI' rfl 0 rfl rfl rfl⟩
    (repeat ((first | refine n_must rfl ?_ | refine n_chk (drawF_ok (by decide +kernel)) ?_ | refine n_same rfl ?_ | ((first | refine n_must ?_ ?_ | refine n_brT ?_ ?_); (focus (first | (simp [h1, h2]; done) | (simp [h1, h2]; omega) | (simp only [h1, h2]; simp; done)))) | (refine n_brF ?_ ?_; (focus (first | (simp [h1, h2]; done) | (simp [h1, h2]; omega) | (simp only [h1, h2]; simp; done)))) | refine n_must (by (with_reducible refine and_shape ?_) <;> kernel_rfl) ?_); (refine gs ?_)))
    refine n_sameP (.bool (usedR used h)) rfl rfl rfl (fun _ w1 hp1 hI1 => Used_ok (hI1.res 0 rfl rfl) hc (by dsimp only; omega) h) ?_; (refine gs ?_)
    by_cases h3 : usedR used h = true
    · (repeat ((first | refine n_must rfl ?_ | refine n_chk (drawF_ok (by decide +kernel)) ?_ | refine n_same rfl ?_ | ((first | refine n_must ?_ ?_ | refine n_brT ?_ ?_); (focus (first | (simp [h3]; done) | (simp [h3]; omega) | (simp only [h3]; simp; done)))) | (refine n_brF ?_ ?_; (focus (first | (simp [h3]; done) | (simp [h3]; omega) | (simp only [h3]; simp; done)))) | refine n_must (by (with_reducible refine and_shape ?_) <;> kernel_rfl) ?_); (refine gs ?_)))
      obtain rfl : D = (⟨nm, cp, v, holds, used⟩, 0, 1) := by rw [← hD, doneF, if_neg k2, if_neg k3, if_pos rfl, if_neg h1, if_neg h2, if_pos h3]
      exact n_ret0 rfl rfl fun ids' w' hp hI' => ⟨((⟨⟨nm, cp, v, holds, used⟩, ho, hcp, uo, uc⟩ : Rc), G), rfl, ⟨rfl, ⟨hc.h, hc.u⟩, fun _ hr => hr⟩, post_res hI' rfl 0 rfl rfl rfl⟩
    have h3' : usedR used h = false := by simpa using h3
    have e3 : IntKind.i64.wrap (v - a) = v - a := w64 (by omega) (by omega)
    obtain rfl : D = (⟨nm, cp, v - a, withR holds (h, a), used ++ [h]⟩, h, 0) := by rw [← hD, doneF, if_neg k2, if_neg k3, if_pos rfl, if_neg h1, if_neg h2, if_neg h3]
    (repeat ((first | refine n_must rfl ?_ | refine n_chk (drawF_ok (by decide +kernel)) ?_ | refine n_same rfl ?_ | ((first | refine n_must ?_ ?_ | refine n_brT ?_ ?_); (focus (first | (simp [h3']; done) | (simp [h3']; omega) | (simp only [h3']; simp; done)))) | (refine n_brF ?_ ?_; (focus (first | (simp [h3']; done) | (simp [h3']; omega) | (simp only [h3']; simp; done)))) | refine n_must (by (with_reducible refine and_shape ?_) <;> kernel_rfl) ?_); (refine gs ?_)))
    rw [e3]
    refine n_call3 rfl fun b1 b2 b3 => ?_
    refine n_callN (fun y : Option Addr × Nat => hRes y (withR holds (h, a))) 137 (fun y => .raw (.slice y.1 (withR holds (h, a)).length y.2)) (fun y => .slice y.1 (withR holds (h, a)).length y.2) (fun _ => True) rfl rfl rfl (fun _ => rfl) (fun w1 hI1 => With_ok (c := (⟨⟨nm, cp, v - a, holds, used⟩, ho, hcp, uo, uc⟩ : Rc)) (hI1.res 0 rfl rfl) ⟨hc.h, hc.u⟩ hl (h, a)) ?_
    rintro ⟨zo, zc⟩ _ hnew
    generalize withR holds (h, a) = W
    (refine gs ?_)
    refine gw ?_
    refine n_loop (σ := Nat × Option Addr × Nat) (fun t => [(2, .int .i64 h), (3, .ptr 2 0), (4, .ptr 3 0), (6, .ptr 4 0), (9, .raw (.slice t.2.1 (used.take t.1).length t.2.2)), (10, .int .i64 (t.1 : Nat))]) (fun t => [⟨3, [.res (arRes G)], true⟩, ⟨3, [.res (uRes t.2 (used.take t.1))], true⟩, ⟨117, [.str nm, .int .i64 cp, .int .i64 (v - a), .raw (.slice zo W.length zc), .raw (.slice uo used.length uc)], true⟩, ⟨50, opS 4 nm' a b, true⟩, ⟨117, [.str { data := #[] }, .int .i64 0, .int .i64 0, .raw (.slice none 0 0), .raw (.slice none 0 0)], true⟩, ⟨137, [.res (hRes (zo, zc) W)], true⟩]) (fun t => t.1 ≤ used.length) (fun t => used.length - t.1) (0, none, 0) mixed (by simp) (fun _ _ => rfl) rfl (by (repeat (first | exact trivial | refine ⟨⟨rfl, rfl⟩, ?_⟩))) (fun s _ => ⟨by (repeat (first | exact trivial | refine ⟨⟨_, rfl⟩, ?_⟩)), by (repeat (first | exact trivial | refine ⟨⟨_, rfl⟩, ?_⟩))⟩) fun t hi => ?_
    obtain ⟨i, o, cap⟩ := t
    dsimp only at hi ⊢
    (refine gs ?_)
    by_cases hlt : i < used.length
    · have ei : IntKind.i64.wrap ((i : Int) + 1) = ((i + 1 : Nat) : Int) := by rw [w64 (by omega) (by omega)]; simp
      have hs := used_some hR hc (by dsimp only; omega)
      dsimp only at hs
      obtain ⟨g, rfl⟩ := hs
      have hx : used[i]? = some used[i] := List.getElem?_eq_getElem _
      generalize used[i] = x at hx
      have hnx := take_next hx
      have hTl : (used.take i).length ≤ i := by rw [List.length_take]; omega
      generalize used.take i = T at hnx hTl
      refine gw ?_
      refine n_ldI (.int .i64 x) rfl rfl (fun _ w1 _ hI1 => load_cell aggInt (used_at (hI1.res 0 rfl rfl) hc rfl hx (by simp [add_add]))) ?_
      (refine gs ?_)
      refine gw ?_
      refine n_build1 rfl rfl elemInt rfl rfl rfl rfl rfl rfl rfl rfl rfl ?_
      (refine gs ?_)
      refine gw ?_
      refine n_append (nv := [.int .i64 x]) 1 rfl rfl elemInt hiti hpi.1 hpi.2.1 hpi.2.2 rfl (by omega) rfl rfl rfl rfl rfl rfl (by omega) (by simp [Value.oneCell']) (by omega) (by omega) (show ints T ++ [.int .i64 x] = ints (T ++ [x]) by simp) fun g' ca' => ?_
      rw [show T.length + 1 = (T ++ [x]).length by simp]
      (refine gs ?_)
      refine gw ?_
      refine n_again ⟨(i + 1, some ⟨g', 0, none⟩, ca'), by dsimp only; omega, by dsimp only; omega, ?_, ?_⟩
      · dsimp only; rw [hnx]; exact (by (repeat (first | exact trivial | refine ⟨⟨rfl, rfl⟩, ?_⟩ | refine ⟨⟨rfl, congrArg (SV.int .i64) ei⟩, ?_⟩)))
      · dsimp only; rw [hnx]; exact ⟨_, rfl⟩
    · obtain rfl : i = used.length := by omega
      rw [List.take_length]
      refine gw ?_
      refine n_exit rfl ?_
      (refine gs ?_)
      refine gw ?_
      refine n_build1 rfl rfl elemInt rfl rfl rfl rfl rfl rfl rfl rfl rfl ?_
      (refine gs ?_)
      refine gw ?_
      refine n_append (nv := [.int .i64 h]) 1 rfl rfl elemInt hiti hpi.1 hpi.2.1 hpi.2.2 rfl (by omega) rfl rfl rfl rfl rfl rfl (by omega) (by simp [Value.oneCell']) (by omega) (by omega) (show ints used ++ [.int .i64 h] = ints (used ++ [h]) by simp) fun g' ca' => ?_
      rw [show used.length + 1 = (used ++ [h]).length by simp]
      (refine gs ?_)
      refine gw ?_
      exact n_ret0 rfl rfl fun ids' w' hp hI' => ⟨((⟨⟨nm, cp, v - a, W, used ++ [h]⟩, zo, zc, some ⟨g', 0, none⟩, ca'⟩ : Rc), G ++ [hRow zo zc W, uRow (some ⟨g', 0, none⟩) ca' (used ++ [h])]), rfl, ⟨rfl, ⟨by simp, by simp⟩, fun _ hr => by simp [hr]⟩, ar_post hI' rfl 0 rfl [(5, hRow zo zc W), (1, uRow (some ⟨g', 0, none⟩) ca' (used ++ [h]))] (by simp only [List.mem_cons, List.not_mem_nil, or_false, forall_eq_or_imp, forall_eq]; exact ⟨⟨_, rfl⟩, ⟨_, rfl⟩⟩)⟩
  by_cases k5 : k = 5 ∨ k = 6 ∨ k = 12
  · have ham := amountR_in hm a
    have hC : D = if amountR holds a = 0 then (⟨nm, cp, v, holds, used⟩, 0, 70) else (⟨nm, cp, if k = 5 then v else v + amountR holds a, withoutR holds a, used⟩, if k = 12 then 0 else amountR holds a, 0) := by rw [← hD, doneF, if_neg k2, if_neg k3, if_neg k4, if_pos k5]
    have e3 : IntKind.i64.wrap (v + amountR holds a) = v + amountR holds a := w64 (by omega) (by omega)
    clear hD
    rcases k5 with rfl | rfl | rfl
    · have hC2 : D = if amountR holds a = 0 then (⟨nm, cp, v, holds, used⟩, 0, 70) else (⟨nm, cp, v, withoutR holds a, used⟩, amountR holds a, 0) := by rw [hC]; rfl
      refine gw ?_
      refine n_sameP (.int .i64 (amountR holds a)) rfl rfl rfl (fun _ w1 hp1 hI1 => Amount_ok (hI1.res 0 rfl rfl) hc (by dsimp only; omega) a) ?_; (refine gs ?_)
      by_cases h0 : amountR holds a = 0
      · (repeat ((first | refine n_must rfl ?_ | refine n_chk (drawF_ok (by decide +kernel)) ?_ | refine n_same rfl ?_ | ((first | refine n_must ?_ ?_ | refine n_brT ?_ ?_); (focus (first | (simp [h0]; done) | (simp [h0]; omega) | (simp only [h0]; simp; done)))) | (refine n_brF ?_ ?_; (focus (first | (simp [h0]; done) | (simp [h0]; omega) | (simp only [h0]; simp; done)))) | refine n_must (by (with_reducible refine and_shape ?_) <;> kernel_rfl) ?_); (refine gs ?_)))
        obtain rfl : D = (⟨nm, cp, v, holds, used⟩, 0, 70) := by rw [hC2, if_pos h0]
        exact n_ret0 rfl rfl fun ids' w' hp hI' => ⟨((⟨⟨nm, cp, v, holds, used⟩, ho, hcp, uo, uc⟩ : Rc), G), rfl, ⟨rfl, ⟨hc.h, hc.u⟩, fun _ hr => hr⟩, post_res hI' rfl 0 rfl rfl rfl⟩
      rw [if_neg h0] at hC2
      clear hC
      subst hC2
      generalize amountR holds a = n at ham e3 h0
      (repeat ((first | refine n_must rfl ?_ | refine n_chk (drawF_ok (by decide +kernel)) ?_ | refine n_same rfl ?_ | ((first | refine n_must ?_ ?_ | refine n_brT ?_ ?_); (focus (first | (simp [h0]; done) | (simp [h0]; omega) | (simp only [h0]; simp; done)))) | (refine n_brF ?_ ?_; (focus (first | (simp [h0]; done) | (simp [h0]; omega) | (simp only [h0]; simp; done)))) | refine n_must (by (with_reducible refine and_shape ?_) <;> kernel_rfl) ?_); (refine gs ?_)))
      refine n_call3 rfl fun b1 b2 b3 => ?_
      refine n_callN (fun y : Option Addr × Nat => hRes y (withoutR holds a)) 137 (fun y => .raw (.slice y.1 (withoutR holds a).length y.2)) (fun y => .slice y.1 (withoutR holds a).length y.2) (fun _ => True) rfl rfl rfl (fun _ => rfl) (fun w1 hI1 => Without_ok (c := (⟨⟨nm, cp, v, holds, used⟩, ho, hcp, uo, uc⟩ : Rc)) (hI1.res 0 rfl rfl) ⟨hc.h, hc.u⟩ hl a) ?_
      rintro ⟨zo, zc⟩ _ hnew
      generalize withoutR holds a = W
      (refine gs ?_)
      (repeat ((first | refine n_must rfl ?_ | refine n_chk (drawF_ok (by decide +kernel)) ?_ | refine n_same rfl ?_ | ((first | refine n_must ?_ ?_ | refine n_brT ?_ ?_); (focus (first | (simp [e3]; done) | (simp [e3]; omega) | (simp only [e3]; simp; done)))) | (refine n_brF ?_ ?_; (focus (first | (simp [e3]; done) | (simp [e3]; omega) | (simp only [e3]; simp; done)))) | refine n_must (by (with_reducible refine and_shape ?_) <;> kernel_rfl) ?_); (refine gs ?_)))
      try rw [e3]
      exact n_ret0 rfl rfl fun ids' w' hp hI' => ⟨((⟨⟨nm, cp, v, W, used⟩, zo, zc, uo, uc⟩ : Rc), G ++ [hRow zo zc W]), rfl, ⟨rfl, ⟨by simp, List.mem_append_left _ hc.u⟩, fun _ hr => by simp [hr]⟩, ar_post hI' rfl 0 rfl [(5, hRow zo zc W)] (by simp only [List.mem_cons, List.not_mem_nil, or_false, forall_eq]; exact ⟨_, rfl⟩)⟩
    · have hC2 : D = if amountR holds a = 0 then (⟨nm, cp, v, holds, used⟩, 0, 70) else (⟨nm, cp, v + amountR holds a, withoutR holds a, used⟩, amountR holds a, 0) := by rw [hC]; rfl
      refine gw ?_
      refine n_sameP (.int .i64 (amountR holds a)) rfl rfl rfl (fun _ w1 hp1 hI1 => Amount_ok (hI1.res 0 rfl rfl) hc (by dsimp only; omega) a) ?_; (refine gs ?_)
      by_cases h0 : amountR holds a = 0
      · (repeat ((first | refine n_must rfl ?_ | refine n_chk (drawF_ok (by decide +kernel)) ?_ | refine n_same rfl ?_ | ((first | refine n_must ?_ ?_ | refine n_brT ?_ ?_); (focus (first | (simp [h0]; done) | (simp [h0]; omega) | (simp only [h0]; simp; done)))) | (refine n_brF ?_ ?_; (focus (first | (simp [h0]; done) | (simp [h0]; omega) | (simp only [h0]; simp; done)))) | refine n_must (by (with_reducible refine and_shape ?_) <;> kernel_rfl) ?_); (refine gs ?_)))
        obtain rfl : D = (⟨nm, cp, v, holds, used⟩, 0, 70) := by rw [hC2, if_pos h0]
        exact n_ret0 rfl rfl fun ids' w' hp hI' => ⟨((⟨⟨nm, cp, v, holds, used⟩, ho, hcp, uo, uc⟩ : Rc), G), rfl, ⟨rfl, ⟨hc.h, hc.u⟩, fun _ hr => hr⟩, post_res hI' rfl 0 rfl rfl rfl⟩
      rw [if_neg h0] at hC2
      clear hC
      subst hC2
      generalize amountR holds a = n at ham e3 h0
      (repeat ((first | refine n_must rfl ?_ | refine n_chk (drawF_ok (by decide +kernel)) ?_ | refine n_same rfl ?_ | ((first | refine n_must ?_ ?_ | refine n_brT ?_ ?_); (focus (first | (simp [h0]; done) | (simp [h0]; omega) | (simp only [h0]; simp; done)))) | (refine n_brF ?_ ?_; (focus (first | (simp [h0]; done) | (simp [h0]; omega) | (simp only [h0]; simp; done)))) | refine n_must (by (with_reducible refine and_shape ?_) <;> kernel_rfl) ?_); (refine gs ?_)))
      refine n_call3 rfl fun b1 b2 b3 => ?_
      refine n_callN (fun y : Option Addr × Nat => hRes y (withoutR holds a)) 137 (fun y => .raw (.slice y.1 (withoutR holds a).length y.2)) (fun y => .slice y.1 (withoutR holds a).length y.2) (fun _ => True) rfl rfl rfl (fun _ => rfl) (fun w1 hI1 => Without_ok (c := (⟨⟨nm, cp, v, holds, used⟩, ho, hcp, uo, uc⟩ : Rc)) (hI1.res 0 rfl rfl) ⟨hc.h, hc.u⟩ hl a) ?_
      rintro ⟨zo, zc⟩ _ hnew
      generalize withoutR holds a = W
      (refine gs ?_)
      (repeat ((first | refine n_must rfl ?_ | refine n_chk (drawF_ok (by decide +kernel)) ?_ | refine n_same rfl ?_ | ((first | refine n_must ?_ ?_ | refine n_brT ?_ ?_); (focus (first | (simp [e3]; done) | (simp [e3]; omega) | (simp only [e3]; simp; done)))) | (refine n_brF ?_ ?_; (focus (first | (simp [e3]; done) | (simp [e3]; omega) | (simp only [e3]; simp; done)))) | refine n_must (by (with_reducible refine and_shape ?_) <;> kernel_rfl) ?_); (refine gs ?_)))
      try rw [e3]
      exact n_ret0 rfl rfl fun ids' w' hp hI' => ⟨((⟨⟨nm, cp, v + n, W, used⟩, zo, zc, uo, uc⟩ : Rc), G ++ [hRow zo zc W]), rfl, ⟨rfl, ⟨by simp, List.mem_append_left _ hc.u⟩, fun _ hr => by simp [hr]⟩, ar_post hI' rfl 0 rfl [(5, hRow zo zc W)] (by simp only [List.mem_cons, List.not_mem_nil, or_false, forall_eq]; exact ⟨_, rfl⟩)⟩
    · have hC2 : D = if amountR holds a = 0 then (⟨nm, cp, v, holds, used⟩, 0, 70) else (⟨nm, cp, v + amountR holds a, withoutR holds a, used⟩, 0, 0) := by rw [hC]; rfl
      refine gw ?_
      refine n_sameP (.int .i64 (amountR holds a)) rfl rfl rfl (fun _ w1 hp1 hI1 => Amount_ok (hI1.res 0 rfl rfl) hc (by dsimp only; omega) a) ?_; (refine gs ?_)
      by_cases h0 : amountR holds a = 0
      · (repeat ((first | refine n_must rfl ?_ | refine n_chk (drawF_ok (by decide +kernel)) ?_ | refine n_same rfl ?_ | ((first | refine n_must ?_ ?_ | refine n_brT ?_ ?_); (focus (first | (simp [h0]; done) | (simp [h0]; omega) | (simp only [h0]; simp; done)))) | (refine n_brF ?_ ?_; (focus (first | (simp [h0]; done) | (simp [h0]; omega) | (simp only [h0]; simp; done)))) | refine n_must (by (with_reducible refine and_shape ?_) <;> kernel_rfl) ?_); (refine gs ?_)))
        obtain rfl : D = (⟨nm, cp, v, holds, used⟩, 0, 70) := by rw [hC2, if_pos h0]
        exact n_ret0 rfl rfl fun ids' w' hp hI' => ⟨((⟨⟨nm, cp, v, holds, used⟩, ho, hcp, uo, uc⟩ : Rc), G), rfl, ⟨rfl, ⟨hc.h, hc.u⟩, fun _ hr => hr⟩, post_res hI' rfl 0 rfl rfl rfl⟩
      rw [if_neg h0] at hC2
      clear hC
      subst hC2
      generalize amountR holds a = n at ham e3 h0
      (repeat ((first | refine n_must rfl ?_ | refine n_chk (drawF_ok (by decide +kernel)) ?_ | refine n_same rfl ?_ | ((first | refine n_must ?_ ?_ | refine n_brT ?_ ?_); (focus (first | (simp [h0]; done) | (simp [h0]; omega) | (simp only [h0]; simp; done)))) | (refine n_brF ?_ ?_; (focus (first | (simp [h0]; done) | (simp [h0]; omega) | (simp only [h0]; simp; done)))) | refine n_must (by (with_reducible refine and_shape ?_) <;> kernel_rfl) ?_); (refine gs ?_)))
      refine n_call3 rfl fun b1 b2 b3 => ?_
      refine n_callN (fun y : Option Addr × Nat => hRes y (withoutR holds a)) 137 (fun y => .raw (.slice y.1 (withoutR holds a).length y.2)) (fun y => .slice y.1 (withoutR holds a).length y.2) (fun _ => True) rfl rfl rfl (fun _ => rfl) (fun w1 hI1 => Without_ok (c := (⟨⟨nm, cp, v, holds, used⟩, ho, hcp, uo, uc⟩ : Rc)) (hI1.res 0 rfl rfl) ⟨hc.h, hc.u⟩ hl a) ?_
      rintro ⟨zo, zc⟩ _ hnew
      generalize withoutR holds a = W
      (refine gs ?_)
      (repeat ((first | refine n_must rfl ?_ | refine n_chk (drawF_ok (by decide +kernel)) ?_ | refine n_same rfl ?_ | ((first | refine n_must ?_ ?_ | refine n_brT ?_ ?_); (focus (first | (simp [e3]; done) | (simp [e3]; omega) | (simp only [e3]; simp; done)))) | (refine n_brF ?_ ?_; (focus (first | (simp [e3]; done) | (simp [e3]; omega) | (simp only [e3]; simp; done)))) | refine n_must (by (with_reducible refine and_shape ?_) <;> kernel_rfl) ?_); (refine gs ?_)))
      try rw [e3]
      exact n_ret0 rfl rfl fun ids' w' hp hI' => ⟨((⟨⟨nm, cp, v + n, W, used⟩, zo, zc, uo, uc⟩ : Rc), G ++ [hRow zo zc W]), rfl, ⟨rfl, ⟨by simp, List.mem_append_left _ hc.u⟩, fun _ hr => by simp [hr]⟩, ar_post hI' rfl 0 rfl [(5, hRow zo zc W)] (by simp only [List.mem_cons, List.not_mem_nil, or_false, forall_eq]; exact ⟨_, rfl⟩)⟩
  have k5a : k ≠ 5 := fun e => k5 (.inl e)
  have k5b : k ≠ 6 := fun e => k5 (.inr (.inl e))
  have k5c : k ≠ 12 := fun e => k5 (.inr (.inr e))
  by_cases k7 : k = 7
  · subst k7
    refine gw ?_
    obtain rfl : D = (⟨nm, cp, v, holds, used⟩, v, 0) := by rw [← hD, doneF, if_neg k2, if_neg k3, if_neg k4, if_neg k5, if_pos rfl]
    exact n_ret0 rfl rfl fun ids' w' hp hI' => ⟨((⟨⟨nm, cp, v, holds, used⟩, ho, hcp, uo, uc⟩ : Rc), G), rfl, ⟨rfl, ⟨hc.h, hc.u⟩, fun _ hr => hr⟩, post_res hI' rfl 0 rfl rfl rfl⟩
  by_cases k8 : k = 8
  · subst k8
    have hb := r8 rfl
    by_cases h1 : v = a
    · subst h1
      by_cases h2 : v < b
      · (repeat ((first | refine n_must rfl ?_ | refine n_chk (drawF_ok (by decide +kernel)) ?_ | refine n_same rfl ?_ | ((first | refine n_must ?_ ?_ | refine n_brT ?_ ?_); (focus (first | (simp [h2]; done) | (simp [h2]; omega) | (simp only [h2]; simp; done)))) | (refine n_brF ?_ ?_; (focus (first | (simp [h2]; done) | (simp [h2]; omega) | (simp only [h2]; simp; done)))) | refine n_must (by (with_reducible refine and_shape ?_) <;> kernel_rfl) ?_); (refine gs ?_)))
        obtain rfl : D = (⟨nm, cp, v, holds, used⟩, 0, 60) := by rw [← hD, doneF, if_neg k2, if_neg k3, if_neg k4, if_neg k5, if_neg k7, if_pos rfl, if_neg (by simp), if_pos h2]
        exact n_ret0 rfl rfl fun ids' w' hp hI' => ⟨((⟨⟨nm, cp, v, holds, used⟩, ho, hcp, uo, uc⟩ : Rc), G), rfl, ⟨rfl, ⟨hc.h, hc.u⟩, fun _ hr => hr⟩, post_res hI' rfl 0 rfl rfl rfl⟩
      · have e3 : IntKind.i64.wrap (v - b) = v - b := w64 (by omega) (by omega)
        (repeat ((first | refine n_must rfl ?_ | refine n_chk (drawF_ok (by decide +kernel)) ?_ | refine n_same rfl ?_ | ((first | refine n_must ?_ ?_ | refine n_brT ?_ ?_); (focus (first | (simp [h2]; done) | (simp [h2]; omega) | (simp only [h2]; simp; done)))) | (refine n_brF ?_ ?_; (focus (first | (simp [h2]; done) | (simp [h2]; omega) | (simp only [h2]; simp; done)))) | refine n_must (by (with_reducible refine and_shape ?_) <;> kernel_rfl) ?_); (refine gs ?_)))
        rw [e3]
        obtain rfl : D = (⟨nm, cp, v - b, holds, used⟩, v, 0) := by rw [← hD, doneF, if_neg k2, if_neg k3, if_neg k4, if_neg k5, if_neg k7, if_pos rfl, if_neg (by simp), if_neg h2]
        exact n_ret0 rfl rfl fun ids' w' hp hI' => ⟨((⟨⟨nm, cp, v - b, holds, used⟩, ho, hcp, uo, uc⟩ : Rc), G), rfl, ⟨rfl, ⟨hc.h, hc.u⟩, fun _ hr => hr⟩, post_res hI' rfl 0 rfl rfl rfl⟩
    · (repeat ((first | refine n_must rfl ?_ | refine n_chk (drawF_ok (by decide +kernel)) ?_ | refine n_same rfl ?_ | ((first | refine n_must ?_ ?_ | refine n_brT ?_ ?_); (focus (first | (simp [h1]; done) | (simp [h1]; omega) | (simp only [h1]; simp; done)))) | (refine n_brF ?_ ?_; (focus (first | (simp [h1]; done) | (simp [h1]; omega) | (simp only [h1]; simp; done)))) | refine n_must (by (with_reducible refine and_shape ?_) <;> kernel_rfl) ?_); (refine gs ?_)))
      obtain rfl : D = (⟨nm, cp, v, holds, used⟩, 0, 110) := by rw [← hD, doneF, if_neg k2, if_neg k3, if_neg k4, if_neg k5, if_neg k7, if_pos rfl, if_pos h1]
      exact n_ret0 rfl rfl fun ids' w' hp hI' => ⟨((⟨⟨nm, cp, v, holds, used⟩, ho, hcp, uo, uc⟩ : Rc), G), rfl, ⟨rfl, ⟨hc.h, hc.u⟩, fun _ hr => hr⟩, post_res hI' rfl 0 rfl rfl rfl⟩
  by_cases k9 : k = 9
  · subst k9
    have ha := r9 rfl
    have e1 : IntKind.i64.wrap (a + heldW holds) = a + heldW holds := w64 (by omega) (by omega)
    refine gw ?_
    refine n_sameP (.int .i64 (heldW holds)) rfl rfl rfl (fun _ w1 hp1 hI1 => Held_ok (hI1.res 0 rfl rfl) hc (by dsimp only; omega)) ?_; (refine gs ?_)
    by_cases h1 : cp < a + heldW holds
    · (repeat ((first | refine n_must rfl ?_ | refine n_chk (drawF_ok (by decide +kernel)) ?_ | refine n_same rfl ?_ | ((first | refine n_must ?_ ?_ | refine n_brT ?_ ?_); (focus (first | (simp [e1, h1]; done) | (simp [e1, h1]; omega) | (simp only [e1, h1]; simp; done)))) | (refine n_brF ?_ ?_; (focus (first | (simp [e1, h1]; done) | (simp [e1, h1]; omega) | (simp only [e1, h1]; simp; done)))) | refine n_must (by (with_reducible refine and_shape ?_) <;> kernel_rfl) ?_); (refine gs ?_)))
      obtain rfl : D = (⟨nm, cp, v, holds, used⟩, 0, 61) := by rw [← hD, doneF, if_neg k2, if_neg k3, if_neg k4, if_neg k5, if_neg k7, if_neg k8, if_pos rfl, if_pos h1]
      exact n_ret0 rfl rfl fun ids' w' hp hI' => ⟨((⟨⟨nm, cp, v, holds, used⟩, ho, hcp, uo, uc⟩ : Rc), G), rfl, ⟨rfl, ⟨hc.h, hc.u⟩, fun _ hr => hr⟩, post_res hI' rfl 0 rfl rfl rfl⟩
    · (repeat ((first | refine n_must rfl ?_ | refine n_chk (drawF_ok (by decide +kernel)) ?_ | refine n_same rfl ?_ | ((first | refine n_must ?_ ?_ | refine n_brT ?_ ?_); (focus (first | (simp [e1, h1]; done) | (simp [e1, h1]; omega) | (simp only [e1, h1]; simp; done)))) | (refine n_brF ?_ ?_; (focus (first | (simp [e1, h1]; done) | (simp [e1, h1]; omega) | (simp only [e1, h1]; simp; done)))) | refine n_must (by (with_reducible refine and_shape ?_) <;> kernel_rfl) ?_); (refine gs ?_)))
      obtain rfl : D = (⟨nm, cp, a, holds, used⟩, a, 0) := by rw [← hD, doneF, if_neg k2, if_neg k3, if_neg k4, if_neg k5, if_neg k7, if_neg k8, if_pos rfl, if_neg h1]
      exact n_ret0 rfl rfl fun ids' w' hp hI' => ⟨((⟨⟨nm, cp, a, holds, used⟩, ho, hcp, uo, uc⟩ : Rc), G), rfl, ⟨rfl, ⟨hc.h, hc.u⟩, fun _ hr => hr⟩, post_res hI' rfl 0 rfl rfl rfl⟩
  have e1 : IntKind.i64.wrap (v + heldW holds) = v + heldW holds := w64 (by omega) (by omega)
  (repeat ((first | refine n_must rfl ?_ | refine n_chk (drawF_ok (by decide +kernel)) ?_ | refine n_same rfl ?_ | ((first | refine n_must ?_ ?_ | refine n_brT ?_ ?_); (focus (first | (simp [k2, k3, k4, k5a, k5b, k5c, k7, k8, k9]; done) | (simp [k2, k3, k4, k5a, k5b, k5c, k7, k8, k9]; omega) | (simp only [k2, k3, k4, k5a, k5b, k5c, k7, k8, k9]; simp; done)))) | (refine n_brF ?_ ?_; (focus (first | (simp [k2, k3, k4, k5a, k5b, k5c, k7, k8, k9]; done) | (simp [k2, k3, k4, k5a, k5b, k5c, k7, k8, k9]; omega) | (simp only [k2, k3, k4, k5a, k5b, k5c, k7, k8, k9]; simp; done)))) | refine n_must (by (with_reducible refine and_shape ?_) <;> kernel_rfl) ?_); (refine gs ?_)))
  refine n_sameP (.int .i64 (heldW holds)) rfl rfl rfl (fun _ w1 hp1 hI1 => Held_ok (hI1.res 0 rfl rfl) hc (by dsimp only; omega)) ?_; (refine gs ?_)
  by_cases h1 : a < v + heldW holds
  · (repeat ((first | refine n_must rfl ?_ | refine n_chk (drawF_ok (by decide +kernel)) ?_ | refine n_same rfl ?_ | ((first | refine n_must ?_ ?_ | refine n_brT ?_ ?_); (focus (first | (simp [e1, h1]; done) | (simp [e1, h1]; omega) | (simp only [e1, h1]; simp; done)))) | (refine n_brF ?_ ?_; (focus (first | (simp [e1, h1]; done) | (simp [e1, h1]; omega) | (simp only [e1, h1]; simp; done)))) | refine n_must (by (with_reducible refine and_shape ?_) <;> kernel_rfl) ?_); (refine gs ?_)))
    obtain rfl : D = (⟨nm, cp, v, holds, used⟩, 0, 61) := by rw [← hD, doneF, if_neg k2, if_neg k3, if_neg k4, if_neg k5, if_neg k7, if_neg k8, if_neg k9, if_pos h1]
    exact n_ret0 rfl rfl fun ids' w' hp hI' => ⟨((⟨⟨nm, cp, v, holds, used⟩, ho, hcp, uo, uc⟩ : Rc), G), rfl, ⟨rfl, ⟨hc.h, hc.u⟩, fun _ hr => hr⟩, post_res hI' rfl 0 rfl rfl rfl⟩
  · (repeat ((first | refine n_must rfl ?_ | refine n_chk (drawF_ok (by decide +kernel)) ?_ | refine n_same rfl ?_ | ((first | refine n_must ?_ ?_ | refine n_brT ?_ ?_); (focus (first | (simp [e1, h1]; done) | (simp [e1, h1]; omega) | (simp only [e1, h1]; simp; done)))) | (refine n_brF ?_ ?_; (focus (first | (simp [e1, h1]; done) | (simp [e1, h1]; omega) | (simp only [e1, h1]; simp; done)))) | refine n_must (by (with_reducible refine and_shape ?_) <;> kernel_rfl) ?_); (refine gs ?_)))
    obtain rfl : D = (⟨nm, a, v, holds, used⟩, a, 0) := by rw [← hD, doneF, if_neg k2, if_neg k3, if_neg k4, if_neg k5, if_neg k7, if_neg k8, if_neg k9, if_neg h1]
    exact n_ret0 rfl rfl fun ids' w' hp hI' => ⟨((⟨⟨nm, a, v, holds, used⟩, ho, hcp, uo, uc⟩ : Rc), G), rfl, ⟨rfl, ⟨hc.h, hc.u⟩, fun _ hr => hr⟩, post_res hI' rfl 0 rfl rfl rfl⟩
end
section
set_option maxRecDepth 100000
set_option linter.unusedSimpArgs false
set_option linter.unusedVariables false
set_option maxHeartbeats 8000000
open Go.RowKit

/-! ### In plain lists -/
def kfind (l : List Rk) (nm : ByteArray) : Option Nat := l.findIdx? fun c => decide (c.nm = nm)
def kputStep (c : Rk) (a : List Rk × Bool) (x : Rk) : List Rk × Bool := if a.2 = false ∧ ltS c.nm x.nm = true then (a.1 ++ [c] ++ [x], true) else (a.1 ++ [x], a.2)
def kputT (c : Rk) (A : List Rk) : List Rk × Bool := A.foldl (kputStep c) ([], false)
def kput (c : Rk) (A : List Rk) : List Rk := if (kputT c A).2 then (kputT c A).1 else (kputT c A).1 ++ [c]
abbrev ks (A : List Rc) : List Rk := A.map Rc.toRk
theorem findR_ks (A : List Rc) (nm : ByteArray) : findR A nm = kfind (ks A) nm := by
  unfold findR kfind ks
  rw [List.findIdx?_map]; rfl
theorem putT_ks (c : Rc) (A : List Rc) : (ks (putT c A).1, (putT c A).2) = kputT c.toRk (ks A) := by
  have key : ∀ (l : List Rc) (a : List Rc × Bool), (ks (l.foldl (putStep c) a).1, (l.foldl (putStep c) a).2) = (ks l).foldl (kputStep c.toRk) (ks a.1, a.2) := by
    intro l
    induction l with
    | nil => intro a; rfl
    | cons x l ih =>
      intro a
      simp only [List.foldl_cons, ks, List.map_cons]
      have h := ih (putStep c a x)
      simp only [ks] at h
      rw [h]
      congr 1
      unfold putStep kputStep
      dsimp only
      split <;> simp
  exact key A ([], false)
theorem putL_ks (c : Rc) (A : List Rc) : ks (putL c A) = kput c.toRk (ks A) := by
  have h := putT_ks c A
  unfold putL kput
  rw [← h]
  dsimp only
  split <;> simp [ks]
def doR (l : List Rk) (k : Int) (nm : ByteArray) (a b h : Int) : List Rk × Int × Int :=
  if rightB k nm a b = false then (l, 0, 1) else if k = 1 then
    (if (kfind l nm).isSome then (l, 0, 101) else if a < b then (l, 0, 61) else (kput ⟨nm, a, b, [], []⟩ l, 0, 0))
  else match (kfind l nm).bind (l[·]?) with
  | none => (l, 0, 100)
  | some c => if (doneF c k a b h).2.2 ≠ 0 then (l, 0, (doneF c k a b h).2.2) else (l.set ((kfind l nm).getD 0) (doneF c k a b h).1, (doneF c k a b h).2.1, 0)
theorem findI_nonneg {A : List Rc} {nm : ByteArray} : 0 ≤ findI A nm ↔ (kfind (ks A) nm).isSome = true := by
  rw [← findR_ks]
  unfold findI
  cases findR A nm with
  | none => simp
  | some i => simp
theorem findI_some {A : List Rc} {nm : ByteArray} (h : 0 ≤ findI A nm) : ∃ i c, findI A nm = (i : Nat) ∧ A[i]? = some c ∧ kfind (ks A) nm = some i := by
  rw [← findR_ks]
  unfold findI at h ⊢
  cases hf : findR A nm with
  | none => rw [hf] at h; simp at h
  | some i =>
    unfold findR at hf
    obtain ⟨hi, _⟩ := List.findIdx?_eq_some_iff_getElem.1 hf
    exact ⟨i, A[i], rfl, List.getElem?_eq_getElem _, rfl⟩
theorem create_ks (A : List Rc) (nm : ByteArray) (a b : Int) : (ks (createF A nm a b).1, (createF A nm a b).2) = if (kfind (ks A) nm).isSome then (ks A, 0, 101) else if a < b then (ks A, 0, 61) else (kput ⟨nm, a, b, [], []⟩ (ks A), 0, 0) := by
  unfold createF
  by_cases h1 : 0 ≤ findI A nm
  · rw [if_pos h1, if_pos (findI_nonneg.1 h1)]
  · rw [if_neg h1, if_neg fun h => h1 (findI_nonneg.2 h)]
    split
    · rfl
    · dsimp only; rw [putL_ks]

/-! ### Do -/
abbrev rmaMem (y : Option Addr × Nat) (A : List Rc) (G : List Rw) : Mem := rmMem y A ++ [⟨3, [.res (arRes G)], true⟩]
def rmaRes (p : Nat) (y : Option Addr × Nat) (A : List Rc) (G : List Rw) : Res := memRes [p, 0, 0] (rmaMem y A G)
abbrev AllIn (G : List Rw) (A : List Rc) : Prop := ∀ c ∈ A, InG G c
theorem rm_sel {p : Nat} {y : Option Addr × Nat} {A : List Rc} {junk : Mem} {ids' : List Nat} (hp : ids'[0]? = some p) : Sel true ids' (rmMem y A ++ junk) [0, 1] [p, 0] (rmMem y A) := .blk rfl hp rfl rfl (.res rfl .nil)
theorem rm_rw {y : Option Addr × Nat} {A : List Rc} : ∀ i b, nth (rmMem y A) i = some b → b.rw = true := by
  intro i b h
  match i, h with
  | 0, h => cases h; rfl
  | 1, h => cases h; rfl
theorem rma_sel {p : Nat} {y : Option Addr × Nat} {A : List Rc} {G : List Rw} {junk : Mem} {ids' : List Nat} (hp : ids'[0]? = some p) : Sel true ids' (rmaMem y A G ++ junk) [0, 1, 2] [p, 0, 0] (rmaMem y A G) := .blk rfl hp rfl rfl (.res rfl (.res rfl .nil))
theorem rma_rw {y : Option Addr × Nat} {A : List Rc} {G : List Rw} : ∀ i b, nth (rmaMem y A G) i = some b → b.rw = true := by
  intro i b h
  match i, h with
  | 0, h => cases h; rfl
  | 1, h => cases h; rfl
  | 2, h => cases h; rfl
/-- A counter's lists are not too long. -/
structure Rk.fit (c : Rk) : Prop where
  i : c.in_
  h : c.holds.length ≤ 8000000000000
  u : c.used.length ≤ 8000000000000
/-- Every list that is new stands among the rows that stay. -/
abbrev NilG (G : List Rw) : Prop := hRow none 0 [] ∈ G ∧ uRow none 0 [] ∈ G
theorem putL_mem {c x : Rc} {A : List Rc} (h : x ∈ putL c A) : x = c ∨ x ∈ A := by
  have key : ∀ (l : List Rc) (a : List Rc × Bool), x ∈ (l.foldl (putStep c) a).1 → x = c ∨ x ∈ l ∨ x ∈ a.1 := by
    intro l
    induction l with
    | nil => intro a h; exact .inr (.inr h)
    | cons y l ih =>
      intro a h
      rcases ih _ h with h | h | h
      · exact .inl h
      · exact .inr (.inl (by simp [h]))
      · unfold putStep at h
        split at h <;> simp at h <;> simp <;> grind
  unfold putL at h
  split at h
  · rcases key A ([], false) h with h | h | h
    · exact .inl h
    · exact .inr h
    · simp at h
  · simp only [List.mem_append, List.mem_cons, List.not_mem_nil, or_false] at h
    rcases h with h | h
    · rcases key A ([], false) h with h | h | h
      · exact .inl h
      · exact .inr h
      · simp at h
    · exact .inl h
theorem rmDo_ok {p : Nat} {y : Option Addr × Nat} {A : List Rc} {G : List Rw} {w : World} (hR : (rmaRes p y A G).R w) (hG : AllIn G A) (hn : NilG G) (hfit : ∀ c ∈ ks A, c.fit) (hl : A.length ≤ 1759218604439) (k : Int) (nm : ByteArray) (a b h : Int) :
    Calls Try.prog 38 #[pV p, .agg (opV k nm a b), .int .i64 h] w fun e w' => ∃ z : (Option Addr × Nat) × List Rc × List Rw, e = .returned (ansV (doR (ks A) k nm a b h).2.1 (doR (ks A) k nm a b h).2.2) ∧ (ks z.2.1 = (doR (ks A) k nm a b h).1 ∧ AllIn z.2.2 z.2.1 ∧ ∀ r ∈ G, r ∈ z.2.2) ∧ Post (rmaRes p y A G) (rmaRes p z.1 z.2.1 z.2.2) w w' := by
  have hI : Inv (cx 56 [(9, .then [(0, []), (1, []), (2, []), (3, []), (4, []), (5, []), (6, []), (7, []), (8, [])] (.fork 9 [] (.of [(10, []), (11, []), (12, []), (13, []), (14, []), (15, []), (16, []), (17, [])]) (.cons 14 [7, 6, 3] (.of [(9, []), (10, []), (11, []), (12, []), (13, []), (15, []), (16, []), (17, [])]))))] (rmaRes p y A G).fp w) w [p, 0, 0] (rmaMem y A G) := memRes_open hR fun x hx => hx
  refine calls_sm (cx 56 [(9, .then [(0, []), (1, []), (2, []), (3, []), (4, []), (5, []), (6, []), (7, []), (8, [])] (.fork 9 [] (.of [(10, []), (11, []), (12, []), (13, []), (14, []), (15, []), (16, []), (17, [])]) (.cons 14 [7, 6, 3] (.of [(9, []), (10, []), (11, []), (12, []), (13, []), (15, []), (16, []), (17, [])]))))] (rmaRes p y A G).fp w) (vals := [.ptr 0 0, .agg (opS k nm a b), .int .i64 h]) mixed Try.func38 rfl rfl rfl hI rfl (st rfl ?_); conv => arg 3; whnf
  refine gg ?_
  refine n_sameP (.bool (rightB k nm a b)) rfl rfl rfl (fun _ w1 hp1 hI1 => rRight16_ok k nm a b w1) ?_; (refine gs ?_)
  by_cases hr : rightB k nm a b = false
  · (repeat ((first | refine n_must rfl ?_ | refine n_chk (drawF_ok (by decide +kernel)) ?_ | refine n_same rfl ?_ | ((first | refine n_must ?_ ?_ | refine n_brT ?_ ?_); (focus (first | (simp [hr]; done) | (simp [hr]; omega) | (simp only [hr]; simp; done)))) | (refine n_brF ?_ ?_; (focus (first | (simp [hr]; done) | (simp [hr]; omega) | (simp only [hr]; simp; done)))) | refine n_must (by (with_reducible refine and_shape ?_) <;> kernel_rfl) ?_); (refine gs ?_)))
    have e : doR (ks A) k nm a b h = (ks A, 0, 1) := by rw [doR, if_pos hr]
    rw [e]
    exact n_ret0 rfl rfl fun ids' w' hp hI' => ⟨(y, A, G), rfl, ⟨rfl, hG, fun _ hr => hr⟩, post_shut hI' rfl [0, 1, 2] (.blk rfl (pre_at hp rfl) rfl rfl (.res rfl (.res rfl .nil))) (by simp)⟩
  have hr' : rightB k nm a b = true := by simpa using hr
  by_cases k1 : k = 1
  · subst k1
    (repeat ((first | refine n_must rfl ?_ | refine n_chk (drawF_ok (by decide +kernel)) ?_ | refine n_same rfl ?_ | ((first | refine n_must ?_ ?_ | refine n_brT ?_ ?_); (focus (first | (simp [hr']; done) | (simp [hr']; omega) | (simp only [hr']; simp; done)))) | (refine n_brF ?_ ?_; (focus (first | (simp [hr']; done) | (simp [hr']; omega) | (simp only [hr']; simp; done)))) | refine n_must (by (with_reducible refine and_shape ?_) <;> kernel_rfl) ?_); (refine gs ?_)))
    refine n_call1 rfl fun b1 => ?_
    refine n_callM (Y := Option Addr × Nat) [p, 0] (rmMem y A) _ (fun z => rmMem z (createF A nm a b).1) (fun _ => ansS (createF A nm a b).2.1 (createF A nm a b).2.2) (fun _ => ansV (createF A nm a b).2.1 (createF A nm a b).2.2) (fun _ => True) rfl rfl (fun _ => rfl) rfl (List.prefix_append [p, 0] _) (fun ids' hp => rm_sel (pre_at hp rfl)) rm_rw (fun _ _ => rfl) (fun _ w1 hp1 hI1 hR => rmCreate_ok hR hl 1 nm a b) ?_
    intro z _
    (refine gs ?_)
    refine gw ?_
    have hc := create_ks A nm a b
    have e : doR (ks A) 1 nm a b h = (ks (createF A nm a b).1, (createF A nm a b).2) := by rw [hc, doR, if_neg hr, if_pos rfl]
    rw [e]
    exact n_ret0 rfl rfl fun ids' w' hp hI' => ⟨(z, (createF A nm a b).1, G), rfl, ⟨rfl, (by
      unfold createF
      split
      · exact hG
      · split
        · exact hG
        · intro c hc
          rcases putL_mem hc with rfl | hc
          · exact ⟨hn.1, hn.2⟩
          · exact hG c hc), fun _ hr => hr⟩, post_shut hI' rfl [0, 1, 2] (.blk rfl (pre_at hp rfl) rfl rfl (.res rfl (.res rfl .nil))) (by simp)⟩
  (repeat ((first | refine n_must rfl ?_ | refine n_chk (drawF_ok (by decide +kernel)) ?_ | refine n_same rfl ?_ | ((first | refine n_must ?_ ?_ | refine n_brT ?_ ?_); (focus (first | (simp [hr', k1]; done) | (simp [hr', k1]; omega) | (simp only [hr', k1]; simp; done)))) | (refine n_brF ?_ ?_; (focus (first | (simp [hr', k1]; done) | (simp [hr', k1]; omega) | (simp only [hr', k1]; simp; done)))) | refine n_must (by (with_reducible refine and_shape ?_) <;> kernel_rfl) ?_); (refine gs ?_)))
  refine n_sameP (.int .i64 (findI A nm)) rfl rfl rfl (fun _ w1 hp1 hI1 => Find_ok (rm_at (y := y) hI1 0 rfl rfl (pre_at hp1 rfl)) (by omega) nm) ?_; (refine gs ?_)
  by_cases h0 : findI A nm < 0
  · (repeat ((first | refine n_must rfl ?_ | refine n_chk (drawF_ok (by decide +kernel)) ?_ | refine n_same rfl ?_ | ((first | refine n_must ?_ ?_ | refine n_brT ?_ ?_); (focus (first | (simp [h0]; done) | (simp [h0]; omega) | (simp only [h0]; simp; done)))) | (refine n_brF ?_ ?_; (focus (first | (simp [h0]; done) | (simp [h0]; omega) | (simp only [h0]; simp; done)))) | refine n_must (by (with_reducible refine and_shape ?_) <;> kernel_rfl) ?_); (refine gs ?_)))
    have hnone : kfind (ks A) nm = none := by
      have : ¬ 0 ≤ findI A nm := by omega
      rw [findI_nonneg] at this
      simpa using this
    have e : doR (ks A) k nm a b h = (ks A, 0, 100) := by rw [doR, if_neg hr, if_neg k1, hnone]; rfl
    rw [e]
    exact n_ret0 rfl rfl fun ids' w' hp hI' => ⟨(y, A, G), rfl, ⟨rfl, hG, fun _ hr => hr⟩, post_shut hI' rfl [0, 1, 2] (.blk rfl (pre_at hp rfl) rfl rfl (.res rfl (.res rfl .nil))) (by simp)⟩
  obtain ⟨i, c, hi, hc, hk⟩ := findI_some (A := A) (nm := nm) (by omega)
  have hil : i < A.length := (List.getElem?_eq_some_iff.1 hc).1
  have hs := rowRes_some' (memRes_res hR 1 rfl rfl) (show 0 < A.length by omega)
  obtain ⟨o, cap⟩ := y
  dsimp only at hs
  obtain ⟨g, rfl⟩ := hs
  rw [hi] at h0 ⊢
  have hcm : c ∈ A := List.mem_of_getElem? hc
  have hf := hfit c.toRk (List.mem_map_of_mem hcm)
  have hD : doR (ks A) k nm a b h = if (doneF c.toRk k a b h).2.2 ≠ 0 then (ks A, 0, (doneF c.toRk k a b h).2.2) else ((ks A).set i (doneF c.toRk k a b h).1, (doneF c.toRk k a b h).2.1, 0) := by
    rw [doR, if_neg hr, if_neg k1, hk]
    simp [hc]
  have hDk : ∀ c2 : Rc, c2.toRk = (doneF c.toRk k a b h).1 → ks (A.set i c2) = (ks A).set i (doneF c.toRk k a b h).1 := fun c2 h2 => by rw [← h2, ks, List.map_set]
  (repeat ((first | refine n_must rfl ?_ | refine n_chk (drawF_ok (by decide +kernel)) ?_ | refine n_same rfl ?_ | ((first | refine n_must ?_ ?_ | refine n_brT ?_ ?_); (focus (first | (simp [h0]; done) | (simp [h0]; omega) | (simp only [h0]; simp; done)))) | (refine n_brF ?_ ?_; (focus (first | (simp [h0]; done) | (simp [h0]; omega) | (simp only [h0]; simp; done)))) | refine n_must (by (with_reducible refine and_shape ?_) <;> kernel_rfl) ?_); (refine gs ?_)))
  refine n_ldDI (.agg c.sv) rfl rfl (fun _ w1 _ hI1 => load_row (l := c.l) aggCtr sizeCtr fun j u hu => row_at rc_len (hI1.res 1 rfl rfl) hc (j := j) (by have := (List.getElem?_eq_some_iff.1 hu).1; simpa using this) hu (by simp [add_add])) ?_
  (refine gs ?_)
  refine gw ?_
  refine n_both ?_ ?_
  · (refine gs ?_)
    refine gw ?_
    refine n_callR (Y := Rc × List Rw) 2 (fun z => arRes z.2) (fun z => .tup [.agg z.1.sv, .int .i64 (doneF c.toRk k a b h).2.1, .int .i64 (doneF c.toRk k a b h).2.2]) (fun z => .tuple #[z.1.val, .int .i64 (doneF c.toRk k a b h).2.1, .int .i64 (doneF c.toRk k a b h).2.2]) (fun z => z.1.toRk = (doneF c.toRk k a b h).1 ∧ InG z.2 z.1 ∧ ∀ r ∈ G, r ∈ z.2) rfl rfl (fun _ => rfl) rfl rfl rfl (fun _ w1 hp1 hI1 hR => Done_ok hR (hG c hcm) hf.i hf.h hf.u k nm a b h hr') ?_
    rintro ⟨c2, G2⟩ ⟨q1, q2, q3⟩
    dsimp only at q1 q2 q3
    have hDk2 := hDk c2 q1
    rw [hD]
    generalize doneF c.toRk k a b h = D at hDk2 q1
    obtain ⟨D1, n, er⟩ := D
    dsimp only at hDk2 q1 ⊢
    (refine gs ?_)
    have hG2 : AllIn G2 A := fun c hc => (hG c hc).mono q3
    have hset : AllIn G2 (A.set i c2) := by
      intro c hc
      rcases List.mem_or_eq_of_mem_set hc with hc | hc
      · exact hG2 c hc
      · rw [hc]; exact q2
    by_cases he : er = 0
    · subst he
      rw [if_neg (by simp)]
      refine gw ?_
      refine n_storeRow (g := g) (off := i * 5) (k := 5) (rv := .agg c2.sv) (v := c2.val) 1 ((A.set i c2).flatMap Rc.l) rfl rfl rfl (by rw [add_mk]; simp) rfl rfl sizeCtr rfl rfl rfl (by rw [flat_len rc_len]; have := Nat.mul_le_mul_right 5 (show i + 1 ≤ A.length by omega); omega) (flat_set rc_len hil) ?_
      rw [show A.length = (A.set i c2).length by simp]
      (refine gs ?_)
      refine gw ?_
      exact n_ret0 rfl rfl fun ids' w' hp hI' => ⟨((some ⟨g, 0, none⟩, cap), A.set i c2, G2), rfl, ⟨hDk2, hset, q3⟩, post_shut hI' rfl [0, 1, 2] (.blk rfl (pre_at hp rfl) rfl rfl (.res rfl (.res rfl .nil))) (by simp)⟩
    · rw [if_pos he]
      (repeat ((first | refine n_must rfl ?_ | refine n_chk (drawF_ok (by decide +kernel)) ?_ | refine n_same rfl ?_ | ((first | refine n_must ?_ ?_ | refine n_brT ?_ ?_); (focus (first | (simp [he]; done) | (simp [he]; omega) | (simp only [he]; simp; done)))) | (refine n_brF ?_ ?_; (focus (first | (simp [he]; done) | (simp [he]; omega) | (simp only [he]; simp; done)))) | refine n_must (by (with_reducible refine and_shape ?_) <;> kernel_rfl) ?_); (refine gs ?_)))
      exact n_ret0 rfl rfl fun ids' w' hp hI' => ⟨((some ⟨g, 0, none⟩, cap), A, G2), rfl, ⟨rfl, hG2, q3⟩, post_shut hI' rfl [0, 1, 2] (.blk rfl (pre_at hp rfl) rfl rfl (.res rfl (.res rfl .nil))) (by simp)⟩
  · (refine gs ?_)
    refine gw ?_
    refine n_ldRI (.agg c.sv) rfl (fun _ w1 _ hI1 => load_row (l := c.l) aggCtr sizeCtr fun j u hu => row_at rc_len (hI1.res 1 rfl rfl) hc (j := j) (by have := (List.getElem?_eq_some_iff.1 hu).1; simpa using this) hu (by simp [add_add])) ?_
    (refine gs ?_)
    refine gw ?_
    refine n_callR (Y := Rc × List Rw) 2 (fun z => arRes z.2) (fun z => .tup [.agg z.1.sv, .int .i64 (doneF c.toRk k a b h).2.1, .int .i64 (doneF c.toRk k a b h).2.2]) (fun z => .tuple #[z.1.val, .int .i64 (doneF c.toRk k a b h).2.1, .int .i64 (doneF c.toRk k a b h).2.2]) (fun z => z.1.toRk = (doneF c.toRk k a b h).1 ∧ InG z.2 z.1 ∧ ∀ r ∈ G, r ∈ z.2) rfl rfl (fun _ => rfl) rfl rfl rfl (fun _ w1 hp1 hI1 hR => Done_ok hR (hG c hcm) hf.i hf.h hf.u k nm a b h hr') ?_
    rintro ⟨c2, G2⟩ ⟨q1, q2, q3⟩
    dsimp only at q1 q2 q3
    have hDk2 := hDk c2 q1
    rw [hD]
    generalize doneF c.toRk k a b h = D at hDk2 q1
    obtain ⟨D1, n, er⟩ := D
    dsimp only at hDk2 q1 ⊢
    (refine gs ?_)
    have hG2 : AllIn G2 A := fun c hc => (hG c hc).mono q3
    have hset : AllIn G2 (A.set i c2) := by
      intro c hc
      rcases List.mem_or_eq_of_mem_set hc with hc | hc
      · exact hG2 c hc
      · rw [hc]; exact q2
    by_cases he : er = 0
    · subst he
      rw [if_neg (by simp)]
      refine gw ?_
      refine n_storeRow (g := g) (off := i * 5) (k := 5) (rv := .agg c2.sv) (v := c2.val) 1 ((A.set i c2).flatMap Rc.l) rfl rfl rfl (by rw [add_mk]; simp) rfl rfl sizeCtr rfl rfl rfl (by rw [flat_len rc_len]; have := Nat.mul_le_mul_right 5 (show i + 1 ≤ A.length by omega); omega) (flat_set rc_len hil) ?_
      rw [show A.length = (A.set i c2).length by simp]
      (refine gs ?_)
      refine gw ?_
      exact n_ret0 rfl rfl fun ids' w' hp hI' => ⟨((some ⟨g, 0, none⟩, cap), A.set i c2, G2), rfl, ⟨hDk2, hset, q3⟩, post_shut hI' rfl [0, 1, 2] (.blk rfl (pre_at hp rfl) rfl rfl (.res rfl (.res rfl .nil))) (by simp)⟩
    · rw [if_pos he]
      (repeat ((first | refine n_must rfl ?_ | refine n_chk (drawF_ok (by decide +kernel)) ?_ | refine n_same rfl ?_ | ((first | refine n_must ?_ ?_ | refine n_brT ?_ ?_); (focus (first | (simp [he]; done) | (simp [he]; omega) | (simp only [he]; simp; done)))) | (refine n_brF ?_ ?_; (focus (first | (simp [he]; done) | (simp [he]; omega) | (simp only [he]; simp; done)))) | refine n_must (by (with_reducible refine and_shape ?_) <;> kernel_rfl) ?_); (refine gs ?_)))
      exact n_ret0 rfl rfl fun ids' w' hp hI' => ⟨((some ⟨g, 0, none⟩, cap), A, G2), rfl, ⟨rfl, hG2, q3⟩, post_shut hI' rfl [0, 1, 2] (.blk rfl (pre_at hp rfl) rfl rfl (.res rfl (.res rfl .nil))) (by simp)⟩
end
section
set_option maxRecDepth 100000
set_option linter.unusedSimpArgs false
set_option linter.unusedVariables false
set_option maxHeartbeats 8000000
open Go.RowKit

theorem blk_at {w : World} {b j : Nat} {l : List Value} {t : TypeId} (h : Blk w b l.toArray t) {a : Addr} {u : Value} (hu : l[j]? = some u) (ha : a = (⟨b, 0, none⟩ : Addr).add j) : w.cell? a = some u := cellsRes_at (b := b) (l := l) (t := t) h hu ha
theorem aggCtrs : aggB Try.prog 109 = some false := by kernel_rfl
theorem rm_den (y : Option Addr × Nat) (A : List Rc) : ∀ i b, nth (rmMem y A) i = some b → resOf b = none → ∃ l, denL [] b.cells = some l := by
  intro i b h hr
  match i, h with
  | 0, h => cases h; exact ⟨_, rfl⟩
  | 1, h => cases h; cases hr
theorem rma_den (y : Option Addr × Nat) (A : List Rc) (G : List Rw) : ∀ i b, nth (rmaMem y A G) i = some b → resOf b = none → ∃ l, denL [] b.cells = some l := by
  intro i b h hr
  match i, h with
  | 0, h => cases h; exact ⟨_, rfl⟩
  | 1, h => cases h; cases hr
  | 2, h => cases h; cases hr
def allowR (D : List Rk × Int × Int) (er va : Int) : Bool := !(decide (D.2.2 = 1) || decide (D.2.2 ≠ er) || decide (D.2.1 ≠ va))
theorem rmAllows_ok {p : Nat} {y : Option Addr × Nat} {A : List Rc} {G : List Rw} {w : World} (hR : (rmaRes p y A G).R w) (hG : AllIn G A) (hn : NilG G) (hfit : ∀ c ∈ ks A, c.fit) (hl : A.length ≤ 1759218604439) (sp se id k : Int) (nm : ByteArray) (a b er va : Int) :
    Calls Try.prog 43 #[pV p, .agg (effV sp se id k nm a b er va)] w fun e w' => ∃ z : (Option Addr × Nat) × List Rc × List Rw, e = .returned (.bool (allowR (doR (ks A) k nm a b va) er va)) ∧ (ks z.2.1 = (if allowR (doR (ks A) k nm a b va) er va then (doR (ks A) k nm a b va).1 else ks A) ∧ AllIn z.2.2 z.2.1 ∧ ∀ r ∈ G, r ∈ z.2.2) ∧ Post (rmaRes p y A G) (rmaRes p z.1 z.2.1 z.2.2) w w' := by
  have hI : Inv (cx 40 [] (rmaRes p y A G).fp w) w [p, 0, 0] (rmaMem y A G) := memRes_open hR fun x hx => hx
  refine calls_sm (cx 40 [] (rmaRes p y A G).fp w) (vals := [.ptr 0 0, .agg (effS sp se id k nm a b er va)]) mixed Try.func43 rfl rfl rfl hI rfl (st rfl ?_); conv => arg 3; whnf
  refine gg ?_
  refine n_call1 rfl fun b1 => ?_
  refine n_callNM (fun z : Nat × Option Addr × Nat => [z.1, 0]) (fun z => rmMem z.2 A) (fun z => .raw (pV z.1)) (fun z => pV z.1) (fun _ => True) rfl rfl rfl (fun _ => rfl) (fun z => rm_den z.2 A) (fun w1 hI1 => rmCopy_ok (rm_at (y := y) hI1 0 rfl rfl rfl) (by omega)) ?_
  rintro ⟨q, z0⟩ _ hnew
  (refine gs ?_)
  refine gw ?_
  refine n_callX [0] _ rfl (fun w1 hI1 => hI1.gather [4, 5, 2] (ids0 := [q, 0, 0]) (mem0 := rmaMem z0 A G) (.blk rfl rfl rfl rfl (.res rfl (.res rfl .nil))) (by simp) 111) ?_
  refine n_callR (Y := (Option Addr × Nat) × List Rc × List Rw) 6 (ρ := rmaRes q z0 A G) (fun z => rmaRes q z.1 z.2.1 z.2.2) (fun _ => ansS (doR (ks A) k nm a b va).2.1 (doR (ks A) k nm a b va).2.2) (fun _ => ansV (doR (ks A) k nm a b va).2.1 (doR (ks A) k nm a b va).2.2) (fun z => ks z.2.1 = (doR (ks A) k nm a b va).1 ∧ AllIn z.2.2 z.2.1 ∧ ∀ r ∈ G, r ∈ z.2.2) rfl rfl (fun _ => rfl) rfl rfl rfl (fun _ w1 hp1 hI1 hR => rmDo_ok hR hG hn hfit hl k nm a b va) ?_
  rintro ⟨z1, A2, G2⟩ ⟨q1, q2, q3⟩
  dsimp only at q1 q2 q3
  generalize doR (ks A) k nm a b va = D at q1
  (refine gs ?_)
  refine gw ?_
  by_cases c1 : D.2.2 = 1
  · have hB : allowR D er va = false := by simp [allowR, c1]
    (repeat ((first | refine n_must rfl ?_ | refine n_chk (drawF_ok (by decide +kernel)) ?_ | refine n_same rfl ?_ | ((first | refine n_must ?_ ?_ | refine n_brT ?_ ?_); (focus (first | (simp [c1]; done) | (simp [c1]; omega) | (simp only [c1]; simp; done)))) | (refine n_brF ?_ ?_; (focus (first | (simp [c1]; done) | (simp [c1]; omega) | (simp only [c1]; simp; done)))) | refine n_must (by (with_reducible refine and_shape ?_) <;> kernel_rfl) ?_); (refine gs ?_)))
    rw [hB]
    refine n_ret0 rfl rfl fun ids' w' hp hI' => ⟨(y, A, G2), rfl, ⟨by simp, fun c hc => (hG c hc).mono q3, q3⟩, ?_⟩
    have hI2 := hI'.spill 6 (ids2 := [q, 0, 0]) (mem2 := rmaMem z1 A2 G2) rfl rfl rfl (rma_den z1 A2 G2)
    have hids : ids'.length = 7 := hI'.len
    exact post_shut hI2 rfl [0, 1, 9] (.blk rfl (pre_at (hp.trans (List.prefix_append _ _)) rfl) rfl rfl (.res rfl (.res rfl .nil))) (by simp)
  by_cases c2 : D.2.2 ≠ er
  · have hB : allowR D er va = false := by simp [allowR, c1, c2]
    (repeat ((first | refine n_must rfl ?_ | refine n_chk (drawF_ok (by decide +kernel)) ?_ | refine n_same rfl ?_ | ((first | refine n_must ?_ ?_ | refine n_brT ?_ ?_); (focus (first | (simp [c1, c2]; done) | (simp [c1, c2]; omega) | (simp only [c1, c2]; simp; done)))) | (refine n_brF ?_ ?_; (focus (first | (simp [c1, c2]; done) | (simp [c1, c2]; omega) | (simp only [c1, c2]; simp; done)))) | refine n_must (by (with_reducible refine and_shape ?_) <;> kernel_rfl) ?_); (refine gs ?_)))
    rw [hB]
    refine n_ret0 rfl rfl fun ids' w' hp hI' => ⟨(y, A, G2), rfl, ⟨by simp, fun c hc => (hG c hc).mono q3, q3⟩, ?_⟩
    have hI2 := hI'.spill 6 (ids2 := [q, 0, 0]) (mem2 := rmaMem z1 A2 G2) rfl rfl rfl (rma_den z1 A2 G2)
    have hids : ids'.length = 7 := hI'.len
    exact post_shut hI2 rfl [0, 1, 9] (.blk rfl (pre_at (hp.trans (List.prefix_append _ _)) rfl) rfl rfl (.res rfl (.res rfl .nil))) (by simp)
  replace c2 : D.2.2 = er := Classical.not_not.1 c2
  by_cases c3 : D.2.1 ≠ va
  · have hB : allowR D er va = false := by simp [allowR, c1, c2, c3]
    (repeat ((first | refine n_must rfl ?_ | refine n_chk (drawF_ok (by decide +kernel)) ?_ | refine n_same rfl ?_ | ((first | refine n_must ?_ ?_ | refine n_brT ?_ ?_); (focus (first | (simp [c1, c2, c3]; done) | (simp [c1, c2, c3]; omega) | (simp only [c1, c2, c3]; simp; done)))) | (refine n_brF ?_ ?_; (focus (first | (simp [c1, c2, c3]; done) | (simp [c1, c2, c3]; omega) | (simp only [c1, c2, c3]; simp; done)))) | refine n_must (by (with_reducible refine and_shape ?_) <;> kernel_rfl) ?_); (refine gs ?_)))
    rw [hB]
    refine n_ret0 rfl rfl fun ids' w' hp hI' => ⟨(y, A, G2), rfl, ⟨by simp, fun c hc => (hG c hc).mono q3, q3⟩, ?_⟩
    have hI2 := hI'.spill 6 (ids2 := [q, 0, 0]) (mem2 := rmaMem z1 A2 G2) rfl rfl rfl (rma_den z1 A2 G2)
    have hids : ids'.length = 7 := hI'.len
    exact post_shut hI2 rfl [0, 1, 9] (.blk rfl (pre_at (hp.trans (List.prefix_append _ _)) rfl) rfl rfl (.res rfl (.res rfl .nil))) (by simp)
  replace c3 : D.2.1 = va := Classical.not_not.1 c3
  have hB : allowR D er va = true := by simp [allowR, c1, c2, c3]; exact fun e => c1 (c2.trans e)
  (repeat ((first | refine n_must rfl ?_ | refine n_chk (drawF_ok (by decide +kernel)) ?_ | refine n_same rfl ?_ | ((first | refine n_must ?_ ?_ | refine n_brT ?_ ?_); (focus (first | (simp [c1, c2, c3]; done) | (simp [c1, c2, c3]; omega) | (simp only [c1, c2, c3]; simp; done)))) | (refine n_brF ?_ ?_; (focus (first | (simp [c1, c2, c3]; done) | (simp [c1, c2, c3]; omega) | (simp only [c1, c2, c3]; simp; done)))) | refine n_must (by (with_reducible refine and_shape ?_) <;> kernel_rfl) ?_); (refine gs ?_)))
  refine n_ldI (.raw (.slice z1.1 A2.length z1.2)) rfl rfl (fun _ w1 _ hI1 => load_cell aggCtrs (blk_at (memRes_blk (ids := [q, 0, 0]) (mem := rmaMem z1 A2 G2) (hI1.res 6 rfl rfl) 0 rfl rfl rfl) (j := 0) rfl rfl)) ?_
  (refine gs ?_)
  refine gw ?_
  rw [hB]
  refine n_ret0 rfl rfl fun ids' w' hp hI' => ⟨(z1, A2, G2), rfl, ⟨by simp [q1], q2, q3⟩, ?_⟩
  have hI2 := hI'.spill 6 (ids2 := [q, 0, 0]) (mem2 := rmaMem z1 A2 G2) rfl rfl rfl (rma_den z1 A2 G2)
  exact post_shut hI2 rfl [0, 8, 9] (.blk rfl (pre_at (hp.trans (List.prefix_append _ _)) rfl) rfl rfl (.res rfl (.res rfl .nil))) (by simp)
end
section
set_option maxRecDepth 100000
set_option linter.unusedSimpArgs false
set_option linter.unusedVariables false
set_option maxHeartbeats 8000000
open Go.RowKit

structure Pa where
  se : Int
  id : Int
  k : Int
  nm : ByteArray
  a : Int
  b : Int
  fr : Int
  to : Int
  er : Int
  va : Int
abbrev Pa.l (p : Pa) : List Value := [.int .i64 p.se, .int .i64 p.id, .int .i64 p.k, .string p.nm, .int .i64 p.a, .int .i64 p.b, .int .i64 p.fr, .int .i64 p.to, .int .i64 p.er, .int .i64 p.va]
abbrev Pa.sv (p : Pa) : List SV := [.int .i64 p.se, .int .i64 p.id, .int .i64 p.k, .str p.nm, .int .i64 p.a, .int .i64 p.b, .int .i64 p.fr, .int .i64 p.to, .int .i64 p.er, .int .i64 p.va]
abbrev Pa.val (p : Pa) : Value := .agg #[.int .i64 p.se, .int .i64 p.id, .int .i64 p.k, .string p.nm, .int .i64 p.a, .int .i64 p.b, .int .i64 p.fr, .int .i64 p.to, .int .i64 p.er, .int .i64 p.va]
theorem pa_len (p : Pa) : p.l.length = 10 := rfl
structure Ef where
  sp : Int
  se : Int
  id : Int
  k : Int
  nm : ByteArray
  a : Int
  b : Int
  er : Int
  va : Int
abbrev Ef.l (e : Ef) : List Value := [.int .i64 e.sp, .int .i64 e.se, .int .i64 e.id, .int .i64 e.k, .string e.nm, .int .i64 e.a, .int .i64 e.b, .int .i64 e.er, .int .i64 e.va]
abbrev Ef.sv (e : Ef) : List SV := effS e.sp e.se e.id e.k e.nm e.a e.b e.er e.va
abbrev Ef.val (e : Ef) : Value := .agg (effV e.sp e.se e.id e.k e.nm e.a e.b e.er e.va)
theorem ef_len (e : Ef) : e.l.length = 9 := rfl
abbrev Pa.call (p : Pa) : Int × Int := (p.se, p.id)
abbrev Ef.call (e : Ef) : Int × Int := (e.se, e.id)
abbrev paRes (o : Option Addr) (L : List Pa) : Res := readRes o (L.flatMap Pa.l)
abbrev efRes (o : Option Addr) (E : List Ef) : Res := readRes o (E.flatMap Ef.l)
theorem aggPast : aggB Try.prog 55 = some true := by kernel_rfl
theorem sizePast : sizeB Try.prog 55 = some 10 := by kernel_rfl
theorem aggEff : aggB Try.prog 52 = some true := by kernel_rfl
theorem sizeEff : sizeB Try.prog 52 = some 9 := by kernel_rfl
theorem aggCall : aggB Try.prog 48 = some true := by kernel_rfl
theorem sizeCall : sizeB Try.prog 48 = some 2 := by kernel_rfl
theorem aggOp : aggB Try.prog 50 = some true := by kernel_rfl
theorem sizeOp : sizeB Try.prog 50 = some 4 := by kernel_rfl
theorem aggErr : aggB Try.prog 35 = some false := by kernel_rfl
section
variable {w : World} {a : Addr} {L : List Pa} {E : List Ef} {i : Nat}
theorem pa_row (h : (paRes (some a) L).R w) {p : Pa} (hx : L[i]? = some p) {ad : Addr} (had : ad = a.add (i * 10)) : (loadVar 55 ad).run Try.prog w = .ok p.val w :=
  load_row (l := p.l) aggPast sizePast fun j u hu => rd_at pa_len h hx (j := j) (by have := (List.getElem?_eq_some_iff.1 hu).1; simpa using this) hu (by rw [had, add_add])
theorem pa_call (h : (paRes (some a) L).R w) {p : Pa} (hx : L[i]? = some p) {ad : Addr} (had : ad = a.add (i * 10)) : (loadVar 48 ad).run Try.prog w = .ok (.agg #[.int .i64 p.se, .int .i64 p.id]) w :=
  load_row (l := [.int .i64 p.se, .int .i64 p.id]) aggCall sizeCall fun j u hu => rd_at pa_len h hx (j := j) (by have := (List.getElem?_eq_some_iff.1 hu).1; simp at this; omega) (by
    have hj : j < 2 := by have := (List.getElem?_eq_some_iff.1 hu).1; simpa using this
    match j, hj with
    | 0, _ => exact hu
    | 1, _ => exact hu) (by rw [had, add_add])
theorem pa_op (h : (paRes (some a) L).R w) {p : Pa} (hx : L[i]? = some p) {ad : Addr} (had : ad = a.add (i * 10 + 2)) : (loadVar 50 ad).run Try.prog w = .ok (.agg (opV p.k p.nm p.a p.b)) w :=
  load_row (l := [.int .i64 p.k, .string p.nm, .int .i64 p.a, .int .i64 p.b]) aggOp sizeOp fun j u hu => rd_at pa_len h hx (j := 2 + j) (by have := (List.getElem?_eq_some_iff.1 hu).1; simp at this; omega) (by
    have hj : j < 4 := by have := (List.getElem?_eq_some_iff.1 hu).1; simpa using this
    match j, hj with
    | 0, _ => exact hu
    | 1, _ => exact hu
    | 2, _ => exact hu
    | 3, _ => exact hu) (by rw [had, add_add, Nat.add_assoc])
theorem pa_cell (h : (paRes (some a) L).R w) {p : Pa} (hx : L[i]? = some p) (j : Nat) {u : Value} (hu : p.l[j]? = some u) {ad : Addr} (had : ad = a.add (i * 10 + j)) : w.cell? ad = some u :=
  rd_at pa_len h hx (j := j) (by have := (List.getElem?_eq_some_iff.1 hu).1; simpa using this) hu had
theorem ef_row (h : (efRes (some a) E).R w) {e : Ef} (hx : E[i]? = some e) {ad : Addr} (had : ad = a.add (i * 9)) : (loadVar 52 ad).run Try.prog w = .ok e.val w :=
  load_row (l := e.l) aggEff sizeEff fun j u hu => rd_at ef_len h hx (j := j) (by have := (List.getElem?_eq_some_iff.1 hu).1; simpa using this) hu (by rw [had, add_add])
theorem ef_call (h : (efRes (some a) E).R w) {e : Ef} (hx : E[i]? = some e) {ad : Addr} (had : ad = a.add (i * 9 + 1)) : (loadVar 48 ad).run Try.prog w = .ok (.agg #[.int .i64 e.se, .int .i64 e.id]) w :=
  load_row (l := [.int .i64 e.se, .int .i64 e.id]) aggCall sizeCall fun j u hu => rd_at ef_len h hx (j := 1 + j) (by have := (List.getElem?_eq_some_iff.1 hu).1; simp at this; omega) (by
    have hj : j < 2 := by have := (List.getElem?_eq_some_iff.1 hu).1; simpa using this
    match j, hj with
    | 0, _ => exact hu
    | 1, _ => exact hu) (by rw [had, add_add, Nat.add_assoc])
theorem ef_cell (h : (efRes (some a) E).R w) {e : Ef} (hx : E[i]? = some e) (j : Nat) {u : Value} (hu : e.l[j]? = some u) {ad : Addr} (had : ad = a.add (i * 9 + j)) : w.cell? ad = some u :=
  rd_at ef_len h hx (j := j) (by have := (List.getElem?_eq_some_iff.1 hu).1; simpa using this) hu had
end

/-! ### Sort, open -/
def openF (p : Pa) : Bool := decide (p.to = -1 ∨ p.er = 111)
def sortF (p : Pa) : Int :=
  if p.k = 11 then 0 else if p.to = -1 ∨ p.er = 111 then 1 else if p.er = 0 ∨ p.er = 110 ∨ p.er = 100 ∨ p.er = 101 ∨ p.er = 70 then 2
  else if p.er = 61 ∧ (p.k = 1 ∨ p.k = 9 ∨ p.k = 10) then 2 else if p.er = 60 ∧ p.k = 8 then 2 else if p.er = 60 ∧ (p.k = 2 ∨ p.k = 3) then 1 else 0
theorem rOpen_ok (p : Pa) (w : World) : Calls Try.prog 55 #[p.val] w fun e w' => e = .returned (.bool (openF p)) ∧ Frm [] w w' := by
  have hI := Inv.nil (P := Try.prog) (N := 11) (S := []) (os := []) w
  refine calls_sm (cx 11 [] [] w) (vals := [.agg p.sv]) mixed Try.func55 rfl rfl rfl hI rfl (st rfl ?_); conv => arg 3; whnf
  (repeat' (first | ((first | refine n_must rfl ?_ | refine n_chk (drawF_ok (by decide +kernel)) ?_ | refine n_same rfl ?_); (refine gs ?_)) | (((first | ((first | refine n_must ?_ ?_ | refine n_brT ?_ ?_); (focus (first | (simp; done) | (simp; omega)))) | (refine n_brF ?_ ?_; (focus (first | (simp; done) | (simp; omega)))))); (refine gs ?_)) | (refine n_br (fun hbr => ?_) (fun hbr => ?_) <;> simp at hbr <;> (refine gs ?_))))
  all_goals refine n_ret0 rfl rfl fun ids' w' hp hI' => ⟨ret_bool ?_, hI'.frm⟩
  all_goals first | (simp [openF, *]; done) | (rw [Bool.eq_iff_iff]; simp [openF, *])
theorem rSort_ok (p : Pa) (w : World) : Calls Try.prog 18 #[p.val] w fun e w' => e = .returned (.int .i64 (sortF p)) ∧ Frm [] w w' := by
  have hI := Inv.nil (P := Try.prog) (N := 73) (S := []) (os := []) w
  refine calls_sm (cx 73 [] [] w) (vals := [.agg p.sv]) mixed Try.func18 rfl rfl rfl hI rfl (st rfl ?_); conv => arg 3; whnf
  repeat' (first | (refine n_must rfl ?_; (refine gs ?_)) | (refine n_chk (drawF_ok (by decide +kernel)) ?_; (refine gs ?_)) | (refine n_same rfl ?_; (refine gs ?_)) | (refine n_brT ?_ ?_; (focus (simp [*]; done)); (refine gs ?_)) | (refine n_brF ?_ ?_; (focus (simp [*]; done)); (refine gs ?_)) | (refine n_br (fun hbr => ?_) (fun hbr => ?_) <;> (try simp at hbr) <;> (refine gs ?_)))
  all_goals refine n_ret0 rfl rfl fun ids' w' hp hI' => ⟨ret_int ?_, hI'.frm⟩
  all_goals (simp [sortF, *])
end
section
set_option maxRecDepth 100000
set_option linter.unusedSimpArgs false
set_option linter.unusedVariables false
set_option maxHeartbeats 8000000
open Go.RowKit

theorem call_eqB (a b c d : Int) : (a == b && (c == d && true)) = decide ((a, c) = (b, d)) := by
  rw [Bool.eq_iff_iff]; simp
theorem op_eqB (k k' : Int) (n n' : ByteArray) (a a' b b' : Int) : (k == k' && (n.toList == n'.toList && (a == a' && (b == b' && true)))) = decide (k = k' ∧ n = n' ∧ a = a' ∧ b = b') := by
  rw [bytes_eq, Bool.eq_iff_iff]; simp

/-! ### Right -/
def okP (p : Pa) : Bool := decide (1 ≤ p.k ∧ p.k ≤ 11 ∧ 0 ≤ p.fr ∧ (p.to ≠ -1 → p.fr ≤ p.to))
abbrev calls (L : List Pa) : List (Int × Int) := L.map Pa.call
def okAt (L : List Pa) (i : Nat) : Bool := match L[i]? with | some p => okP p && !(calls (L.take i)).contains p.call | none => true
def rightH (L : List Pa) : Bool := (List.range L.length).all (okAt L)
theorem rightH_false {L : List Pa} {i : Nat} (h : okAt L i = false) : rightH L = false := by
  unfold rightH
  rw [List.all_eq_false]
  refine ⟨i, ?_, by simp [h]⟩
  rw [List.mem_range]
  rcases Nat.lt_or_ge i L.length with h1 | h1
  · exact h1
  · unfold okAt at h; rw [List.getElem?_eq_none h1] at h; cases h
theorem rightH_true {L : List Pa} (h : ∀ j, j < L.length → okAt L j = true) : rightH L = true := by
  unfold rightH
  rw [List.all_eq_true]
  intro j hj
  exact h j (List.mem_range.1 hj)
theorem rightH_at {L : List Pa} (h : rightH L = true) {i : Nat} {p : Pa} (hx : L[i]? = some p) : okP p = true ∧ p.call ∉ calls (L.take i) := by
  unfold rightH at h
  have := List.all_eq_true.1 h i (List.mem_range.2 (List.getElem?_eq_some_iff.1 hx).1)
  unfold okAt at this
  rw [hx] at this
  simpa using this
theorem rRight17_ok {o : Option Addr} {L : List Pa} {w : World} (cap : Nat) (hR : (paRes o L).R w) (hlt : ∀ x ∈ (paRes o L).fp, x < w.heap.size) (hl : L.length ≤ 9223372036854775806) :
    Calls Try.prog 26 #[.slice o L.length cap] w fun e w' => e = .returned (.bool (rightH L)) ∧ Frm [] w w' := by
  have hI : Inv (cx 56 [] [] w) w [0] [⟨55, [.res (paRes o L)], false⟩] := (Inv.nil w).consR (by simp) hR hlt (by simp)
  refine calls_sm (cx 56 [] [] w) (vals := [.raw (.slice o L.length cap)]) mixed Try.func26 rfl rfl rfl hI rfl (st rfl ?_); conv => arg 3; whnf
  refine gg ?_
  refine n_loop (σ := Nat) (fun i => [(0, .raw (.slice o L.length cap)), (3, .int .i64 (i : Nat))]) (fun _ => [⟨55, [.res (paRes o L)], false⟩]) (fun i => i ≤ L.length ∧ ∀ j, j < i → okAt L j = true) (fun i => L.length - i) 0 mixed ⟨by omega, by intro j h; omega⟩ (fun _ _ => rfl) rfl (by (repeat (first | exact trivial | refine ⟨⟨rfl, rfl⟩, ?_⟩))) (fun s _ => ⟨by (repeat (first | exact trivial | refine ⟨⟨_, rfl⟩, ?_⟩)), by (repeat (first | exact trivial | refine ⟨⟨_, rfl⟩, ?_⟩))⟩) fun i hi => ?_
  obtain ⟨hi, hJ⟩ := hi
  (refine gs ?_)
  by_cases hlt2 : i < L.length
  · have ei : IntKind.i64.wrap ((i : Int) + 1) = ((i + 1 : Nat) : Int) := by rw [w64 (by omega) (by omega)]; simp
    obtain ⟨ad, rfl⟩ := rd_some pa_len (by omega) hR (by omega)
    have hx : L[i]? = some L[i] := List.getElem?_eq_getElem _
    generalize L[i] = p at hx
    have hok : okAt L i = (okP p && !(calls (L.take i)).contains p.call) := by unfold okAt; rw [hx]
    refine gw ?_
    refine n_ldI (.agg p.sv) rfl rfl (fun _ w1 _ hI1 => pa_row (hI1.res 0 rfl rfl) hx (by simp)) ?_
    (refine gs ?_)
    by_cases q1 : p.k < 1
    · have hpk : okP p = false := by simp only [okP, decide_eq_false_iff_not]; omega
      (repeat ((first | refine n_must rfl ?_ | refine n_chk (drawF_ok (by decide +kernel)) ?_ | refine n_same rfl ?_ | ((first | refine n_must ?_ ?_ | refine n_brT ?_ ?_); (focus (first | (simp [q1]; done) | (simp [q1]; omega) | (simp only [q1]; simp; done)))) | (refine n_brF ?_ ?_; (focus (first | (simp [q1]; done) | (simp [q1]; omega) | (simp only [q1]; simp; done)))) | refine n_must (by (with_reducible refine and_shape ?_) <;> kernel_rfl) ?_); (refine gs ?_)))
      refine n_leave ?_
      rw [rightH_false (i := i) (by rw [hok, hpk]; rfl)]
      exact n_ret0 rfl rfl fun ids' w' hp hI' => ⟨rfl, hI'.frm⟩
    by_cases q2 : 11 < p.k
    · have hpk : okP p = false := by simp only [okP, decide_eq_false_iff_not]; omega
      (repeat ((first | refine n_must rfl ?_ | refine n_chk (drawF_ok (by decide +kernel)) ?_ | refine n_same rfl ?_ | ((first | refine n_must ?_ ?_ | refine n_brT ?_ ?_); (focus (first | (simp [q1, q2]; done) | (simp [q1, q2]; omega) | (simp only [q1, q2]; simp; done)))) | (refine n_brF ?_ ?_; (focus (first | (simp [q1, q2]; done) | (simp [q1, q2]; omega) | (simp only [q1, q2]; simp; done)))) | refine n_must (by (with_reducible refine and_shape ?_) <;> kernel_rfl) ?_); (refine gs ?_)))
      refine n_leave ?_
      rw [rightH_false (i := i) (by rw [hok, hpk]; rfl)]
      exact n_ret0 rfl rfl fun ids' w' hp hI' => ⟨rfl, hI'.frm⟩
    by_cases q3 : p.fr < 0
    · have hpk : okP p = false := by simp only [okP, decide_eq_false_iff_not]; omega
      (repeat ((first | refine n_must rfl ?_ | refine n_chk (drawF_ok (by decide +kernel)) ?_ | refine n_same rfl ?_ | ((first | refine n_must ?_ ?_ | refine n_brT ?_ ?_); (focus (first | (simp [q1, q2, q3]; done) | (simp [q1, q2, q3]; omega) | (simp only [q1, q2, q3]; simp; done)))) | (refine n_brF ?_ ?_; (focus (first | (simp [q1, q2, q3]; done) | (simp [q1, q2, q3]; omega) | (simp only [q1, q2, q3]; simp; done)))) | refine n_must (by (with_reducible refine and_shape ?_) <;> kernel_rfl) ?_); (refine gs ?_)))
      refine n_leave ?_
      rw [rightH_false (i := i) (by rw [hok, hpk]; rfl)]
      exact n_ret0 rfl rfl fun ids' w' hp hI' => ⟨rfl, hI'.frm⟩
    by_cases q4 : p.to = -1
    · have hpk : okP p = true := by simp only [okP, decide_eq_true_eq]; omega
      (repeat ((first | refine n_must rfl ?_ | refine n_chk (drawF_ok (by decide +kernel)) ?_ | refine n_same rfl ?_ | ((first | refine n_must ?_ ?_ | refine n_brT ?_ ?_); (focus (first | (simp [q1, q2, q3, q4]; done) | (simp [q1, q2, q3, q4]; omega) | (simp only [q1, q2, q3, q4]; simp; done)))) | (refine n_brF ?_ ?_; (focus (first | (simp [q1, q2, q3, q4]; done) | (simp [q1, q2, q3, q4]; omega) | (simp only [q1, q2, q3, q4]; simp; done)))) | refine n_must (by (with_reducible refine and_shape ?_) <;> kernel_rfl) ?_); (refine gs ?_)))
      refine n_loop1 rfl fun b1 => ?_
      refine n_loop (σ := Nat) (fun m => [(0, .raw (.slice (some ad) L.length cap)), (3, .int .i64 (i : Nat)), (4, .ptr 1 0), (5, .int .i64 (m : Nat))]) (fun _ => [⟨55, [.res (paRes (some ad) L)], false⟩, ⟨55, p.sv, true⟩]) (fun m => m ≤ i ∧ ∀ j q, j < m → L[j]? = some q → q.call ≠ p.call) (fun m => i - m) 0 mixed ⟨by omega, by intro j q h; omega⟩ (fun _ _ => rfl) rfl (by (repeat (first | exact trivial | refine ⟨⟨rfl, rfl⟩, ?_⟩))) (fun s _ => ⟨by (repeat (first | exact trivial | refine ⟨⟨_, rfl⟩, ?_⟩)), by (repeat (first | exact trivial | refine ⟨⟨_, rfl⟩, ?_⟩))⟩) fun m hm => ?_
      obtain ⟨hm, hK⟩ := hm
      (refine gs ?_)
      by_cases hmi : m < i
      · have em : IntKind.i64.wrap ((m : Int) + 1) = ((m + 1 : Nat) : Int) := by rw [w64 (by omega) (by omega)]; simp
        have hm2 : m < L.length := by omega
        have hy : L[m]? = some L[m] := List.getElem?_eq_getElem _
        generalize L[m] = q at hy
        refine gw ?_
        refine n_ldDI (.agg [.int .i64 q.se, .int .i64 q.id]) rfl rfl (fun _ w1 _ hI1 => pa_call (hI1.res 0 rfl rfl) hy (by simp [add_add])) ?_
        (refine gs ?_)
        refine gw ?_
        by_cases hc : q.call = p.call
        · refine n_brT (by rw [call_eqB]; simpa using hc) ?_
          (refine gs ?_)
          refine gw ?_
          refine n_leave ?_
          refine n_leave ?_
          have hin : p.call ∈ calls (L.take i) := by
            rw [← hc]
            exact List.mem_map_of_mem (List.mem_of_getElem? (i := m) (by rw [List.getElem?_take, if_pos hmi]; exact hy))
          rw [rightH_false (i := i) (by rw [hok]; simp; intro _; simpa using hin)]
          exact n_ret0 rfl rfl fun ids' w' hp hI' => ⟨rfl, hI'.frm⟩
        · refine n_brF (by rw [call_eqB]; simpa using hc) ?_
          (refine gs ?_)
          refine gw ?_
          refine n_again ⟨m + 1, ⟨by omega, fun j q' hj hq => ?_⟩, by omega, (by (repeat (first | exact trivial | refine ⟨⟨rfl, rfl⟩, ?_⟩ | refine ⟨⟨rfl, congrArg (SV.int .i64) em⟩, ?_⟩))), ⟨_, rfl⟩⟩
          by_cases e : j = m
          · subst e; rw [hy] at hq; cases hq; exact hc
          · exact hK j q' (by omega) hq
      · obtain rfl : m = i := by omega
        have hni : okAt L m = true := by
          rw [hok, hpk]
          simp only [Bool.true_and, Bool.not_eq_true', List.contains_eq_mem, decide_eq_false_iff_not]
          intro hin
          obtain ⟨q, hq, he⟩ := List.mem_map.1 hin
          obtain ⟨j, hj, hjq⟩ := List.getElem_of_mem hq
          rw [List.length_take] at hj
          refine hK j q (by omega) ?_ he
          rw [← hjq, List.getElem_take, ← List.getElem?_eq_getElem]
        refine gw ?_
        refine n_exit rfl ?_
        (refine gs ?_)
        refine gw ?_
        refine n_again ⟨m + 1, ⟨by omega, fun j hj => ?_⟩, by omega, (by (repeat (first | exact trivial | refine ⟨⟨rfl, rfl⟩, ?_⟩ | refine ⟨⟨rfl, congrArg (SV.int .i64) ei⟩, ?_⟩))), ⟨_, rfl⟩⟩
        by_cases e : j = m
        · subst e; exact hni
        · exact hJ j (by omega)
    by_cases q5 : p.to < p.fr
    · have hpk : okP p = false := by simp only [okP, decide_eq_false_iff_not]; omega
      (repeat ((first | refine n_must rfl ?_ | refine n_chk (drawF_ok (by decide +kernel)) ?_ | refine n_same rfl ?_ | ((first | refine n_must ?_ ?_ | refine n_brT ?_ ?_); (focus (first | (simp [q1, q2, q3, q4, q5]; done) | (simp [q1, q2, q3, q4, q5]; omega) | (simp only [q1, q2, q3, q4, q5]; simp; done)))) | (refine n_brF ?_ ?_; (focus (first | (simp [q1, q2, q3, q4, q5]; done) | (simp [q1, q2, q3, q4, q5]; omega) | (simp only [q1, q2, q3, q4, q5]; simp; done)))) | refine n_must (by (with_reducible refine and_shape ?_) <;> kernel_rfl) ?_); (refine gs ?_)))
      refine n_leave ?_
      rw [rightH_false (i := i) (by rw [hok, hpk]; rfl)]
      exact n_ret0 rfl rfl fun ids' w' hp hI' => ⟨rfl, hI'.frm⟩
    have hpk : okP p = true := by simp only [okP, decide_eq_true_eq]; omega
    (repeat ((first | refine n_must rfl ?_ | refine n_chk (drawF_ok (by decide +kernel)) ?_ | refine n_same rfl ?_ | ((first | refine n_must ?_ ?_ | refine n_brT ?_ ?_); (focus (first | (simp [q1, q2, q3, q4, q5]; done) | (simp [q1, q2, q3, q4, q5]; omega) | (simp only [q1, q2, q3, q4, q5]; simp; done)))) | (refine n_brF ?_ ?_; (focus (first | (simp [q1, q2, q3, q4, q5]; done) | (simp [q1, q2, q3, q4, q5]; omega) | (simp only [q1, q2, q3, q4, q5]; simp; done)))) | refine n_must (by (with_reducible refine and_shape ?_) <;> kernel_rfl) ?_); (refine gs ?_)))
    refine n_loop1 rfl fun b1 => ?_
    refine n_loop (σ := Nat) (fun m => [(0, .raw (.slice (some ad) L.length cap)), (3, .int .i64 (i : Nat)), (4, .ptr 1 0), (5, .int .i64 (m : Nat))]) (fun _ => [⟨55, [.res (paRes (some ad) L)], false⟩, ⟨55, p.sv, true⟩]) (fun m => m ≤ i ∧ ∀ j q, j < m → L[j]? = some q → q.call ≠ p.call) (fun m => i - m) 0 mixed ⟨by omega, by intro j q h; omega⟩ (fun _ _ => rfl) rfl (by (repeat (first | exact trivial | refine ⟨⟨rfl, rfl⟩, ?_⟩))) (fun s _ => ⟨by (repeat (first | exact trivial | refine ⟨⟨_, rfl⟩, ?_⟩)), by (repeat (first | exact trivial | refine ⟨⟨_, rfl⟩, ?_⟩))⟩) fun m hm => ?_
    obtain ⟨hm, hK⟩ := hm
    (refine gs ?_)
    by_cases hmi : m < i
    · have em : IntKind.i64.wrap ((m : Int) + 1) = ((m + 1 : Nat) : Int) := by rw [w64 (by omega) (by omega)]; simp
      have hm2 : m < L.length := by omega
      have hy : L[m]? = some L[m] := List.getElem?_eq_getElem _
      generalize L[m] = q at hy
      refine gw ?_
      refine n_ldDI (.agg [.int .i64 q.se, .int .i64 q.id]) rfl rfl (fun _ w1 _ hI1 => pa_call (hI1.res 0 rfl rfl) hy (by simp [add_add])) ?_
      (refine gs ?_)
      refine gw ?_
      by_cases hc : q.call = p.call
      · refine n_brT (by rw [call_eqB]; simpa using hc) ?_
        (refine gs ?_)
        refine gw ?_
        refine n_leave ?_
        refine n_leave ?_
        have hin : p.call ∈ calls (L.take i) := by
          rw [← hc]
          exact List.mem_map_of_mem (List.mem_of_getElem? (i := m) (by rw [List.getElem?_take, if_pos hmi]; exact hy))
        rw [rightH_false (i := i) (by rw [hok]; simp; intro _; simpa using hin)]
        exact n_ret0 rfl rfl fun ids' w' hp hI' => ⟨rfl, hI'.frm⟩
      · refine n_brF (by rw [call_eqB]; simpa using hc) ?_
        (refine gs ?_)
        refine gw ?_
        refine n_again ⟨m + 1, ⟨by omega, fun j q' hj hq => ?_⟩, by omega, (by (repeat (first | exact trivial | refine ⟨⟨rfl, rfl⟩, ?_⟩ | refine ⟨⟨rfl, congrArg (SV.int .i64) em⟩, ?_⟩))), ⟨_, rfl⟩⟩
        by_cases e : j = m
        · subst e; rw [hy] at hq; cases hq; exact hc
        · exact hK j q' (by omega) hq
    · obtain rfl : m = i := by omega
      have hni : okAt L m = true := by
        rw [hok, hpk]
        simp only [Bool.true_and, Bool.not_eq_true', List.contains_eq_mem, decide_eq_false_iff_not]
        intro hin
        obtain ⟨q, hq, he⟩ := List.mem_map.1 hin
        obtain ⟨j, hj, hjq⟩ := List.getElem_of_mem hq
        rw [List.length_take] at hj
        refine hK j q (by omega) ?_ he
        rw [← hjq, List.getElem_take, ← List.getElem?_eq_getElem]
      refine gw ?_
      refine n_exit rfl ?_
      (refine gs ?_)
      refine gw ?_
      refine n_again ⟨m + 1, ⟨by omega, fun j hj => ?_⟩, by omega, (by (repeat (first | exact trivial | refine ⟨⟨rfl, rfl⟩, ?_⟩ | refine ⟨⟨rfl, congrArg (SV.int .i64) ei⟩, ?_⟩))), ⟨_, rfl⟩⟩
      by_cases e : j = m
      · subst e; exact hni
      · exact hJ j (by omega)
  · obtain rfl : i = L.length := by omega
    refine gw ?_
    refine n_exit rfl ?_
    (refine gs ?_)
    refine gw ?_
    rw [rightH_true hJ]
    exact n_ret0 rfl rfl fun ids' w' hp hI' => ⟨rfl, hI'.frm⟩

/-! ### place -/
def placeI (L : List Pa) (c : Int × Int) : Int := match L.findIdx? (fun p => decide (p.call = c)) with | some i => i | none => -1
theorem rPlace_ok {o : Option Addr} {L : List Pa} {w : World} (cap : Nat) (hR : (paRes o L).R w) (hlt : ∀ x ∈ (paRes o L).fp, x < w.heap.size) (hl : L.length ≤ 9223372036854775806) (s d : Int) :
    Calls Try.prog 54 #[.slice o L.length cap, .agg #[.int .i64 s, .int .i64 d]] w fun e w' => e = .returned (.int .i64 (placeI L (s, d))) ∧ Frm [] w w' := by
  have hI : Inv (cx 20 [] [] w) w [0] [⟨55, [.res (paRes o L)], false⟩] := (Inv.nil w).consR (by simp) hR hlt (by simp)
  refine calls_sm (cx 20 [] [] w) (vals := [.raw (.slice o L.length cap), .agg [.int .i64 s, .int .i64 d]]) mixed Try.func54 rfl rfl rfl hI rfl (st rfl ?_); conv => arg 3; whnf
  refine gg ?_
  refine n_loop1 rfl fun b1 => ?_
  refine n_loop (σ := Nat) (fun i => [(0, .raw (.slice o L.length cap)), (3, .ptr 1 0), (5, .int .i64 (i : Nat))]) (fun _ => [⟨55, [.res (paRes o L)], false⟩, ⟨48, [.int .i64 s, .int .i64 d], true⟩]) (fun i => i ≤ L.length ∧ ∀ j (hj : j < L.length), j < i → L[j].call ≠ (s, d)) (fun i => L.length - i) 0 mixed ⟨by omega, by intro j _ h; omega⟩ (fun _ _ => rfl) rfl (by (repeat (first | exact trivial | refine ⟨⟨rfl, rfl⟩, ?_⟩))) (fun s _ => ⟨by (repeat (first | exact trivial | refine ⟨⟨_, rfl⟩, ?_⟩)), by (repeat (first | exact trivial | refine ⟨⟨_, rfl⟩, ?_⟩))⟩) fun i hi => ?_
  obtain ⟨hi, hJ⟩ := hi
  (refine gs ?_)
  by_cases hlt2 : i < L.length
  · have ei : IntKind.i64.wrap ((i : Int) + 1) = ((i + 1 : Nat) : Int) := by rw [w64 (by omega) (by omega)]; simp
    obtain ⟨ad, rfl⟩ := rd_some pa_len (by omega) hR (by omega)
    have hx : L[i]? = some L[i] := List.getElem?_eq_getElem _
    generalize hpe : L[i] = p at hx
    refine gw ?_
    refine n_ldDI (.agg [.int .i64 p.se, .int .i64 p.id]) rfl rfl (fun _ w1 _ hI1 => pa_call (hI1.res 0 rfl rfl) hx (by simp [add_add])) ?_
    (refine gs ?_)
    refine gw ?_
    by_cases hc : p.call = (s, d)
    · refine n_brT (by rw [call_eqB]; simpa using hc) ?_
      (refine gs ?_)
      refine gw ?_
      refine n_leave ?_
      have e : placeI L (s, d) = i := by
        have : L.findIdx? (fun p => decide (p.call = (s, d))) = some i := by
          rw [List.findIdx?_eq_some_iff_getElem]
          exact ⟨hlt2, by rw [hpe]; simpa using hc, fun j hj => by simpa using hJ j (by omega) hj⟩
        rw [placeI, this]
      rw [e]
      exact n_ret0 rfl rfl fun ids' w' hp hI' => ⟨rfl, hI'.frm⟩
    · refine n_brF (by rw [call_eqB]; simpa using hc) ?_
      (refine gs ?_)
      refine gw ?_
      refine n_again ⟨i + 1, ⟨by omega, fun j hj hji => ?_⟩, by omega, (by (repeat (first | exact trivial | refine ⟨⟨rfl, rfl⟩, ?_⟩ | refine ⟨⟨rfl, congrArg (SV.int .i64) ei⟩, ?_⟩))), ⟨_, rfl⟩⟩
      by_cases e : j = i
      · subst e; rw [hpe]; exact hc
      · exact hJ j hj (by omega)
  · obtain rfl : i = L.length := by omega
    refine gw ?_
    refine n_exit rfl ?_
    (refine gs ?_)
    refine gw ?_
    have e : placeI L (s, d) = -1 := by
      have : L.findIdx? (fun p => decide (p.call = (s, d))) = none := by
        rw [List.findIdx?_eq_none_iff]
        intro x hx
        obtain ⟨j, hj, rfl⟩ := List.getElem_of_mem hx
        simpa using hJ j hj hj
      rw [placeI, this]
    rw [e]
    exact n_ret0 rfl rfl fun ids' w' hp hI' => ⟨rfl, hI'.frm⟩
end
end Go.Proofs.Ytfcbcgjgkleonaa
