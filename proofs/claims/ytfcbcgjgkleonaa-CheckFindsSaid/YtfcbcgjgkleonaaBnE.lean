/- sluiceref16: counters whose lists are never written in place: the rows that stay, as one part; Held, amount, used, without, with, find. sluiceref16: the map: New, find, Right, Copy, create. sluiceref16: Copy, create. -/
import Derived.Test.YtfcbcgjgkleonaaBnC
import Derived.Test.YtfcbcgjgkleonaaBs
import Derived.Test.YtfcbcgjgkleonaaBnD
namespace Go.Proofs.Ytfcbcgjgkleonaa
section
set_option maxRecDepth 100000
set_option linter.unusedSimpArgs false
set_option linter.unusedVariables false
set_option maxHeartbeats 4000000
open Go.RowKit

def litB (b : Bool) : SV := match b with | true => .lit true | false => .lit false
/-! ### Rows that stay -/
structure Rw where
  t : TypeId
  sz : Nat
  o : Option Addr
  n : Nat
  cap : Nat
  xs : List Value
def Rw.res (r : Rw) : Res := rowRes r.t r.sz r.o r.n r.cap r.xs
/-- The part: rows that stay as they are. -/
def arRes (G : List Rw) : Res where
  fp := G.flatMap fun r => r.res.fp
  R w := ∀ r ∈ G, r.res.R w
  stable := fun w w' hk h r hr => r.res.stable w w' (fun k hx => hk k (List.mem_flatMap.2 ⟨r, hr, hx⟩)) (h r hr)
theorem rowRes_lt {e : TypeId} {size n cap : Nat} {o : Option Addr} {xs : List Value} {w : World} (h : (rowRes e size o n cap xs).R w) : ∀ x ∈ (rowRes e size o n cap xs).fp, x < w.heap.size := by
  have h' : w.ownsRow 0 e size (.slice o n cap) n xs := h
  intro x hx
  cases o with
  | none => simp [rowRes] at hx
  | some a =>
    simp [rowRes] at hx
    subst hx
    exact (h'.lt _ rfl).2
theorem arRes_lt {G : List Rw} {w : World} (h : (arRes G).R w) : ∀ x ∈ (arRes G).fp, x < w.heap.size := by
  intro x hx
  obtain ⟨r, hr, hx⟩ := List.mem_flatMap.1 hx
  exact rowRes_lt (h r hr) x hx
theorem arRes_at {G : List Rw} {w : World} (h : (arRes G).R w) {r : Rw} (hr : r ∈ G) : (rowRes r.t r.sz r.o r.n r.cap r.xs).R w := h r hr

/-! ### Counters -/
abbrev hlL (x : Int × Int) : List Value := [.int .i64 x.1, .int .i64 x.2]
theorem hl_len (x : Int × Int) : (hlL x).length = 2 := rfl
abbrev ints (l : List Int) : List Value := l.map (Value.int .i64)
/-- A counter of the document. -/
structure Rk where
  nm : ByteArray
  cap : Int
  v : Int
  holds : List (Int × Int)
  used : List Int
/-- Where its lists lie. -/
structure Rc extends Rk where
  ho : Option Addr
  hc : Nat
  uo : Option Addr
  uc : Nat
abbrev Rc.l (c : Rc) : List Value := [.string c.nm, .int .i64 c.cap, .int .i64 c.v, .slice c.ho c.holds.length c.hc, .slice c.uo c.used.length c.uc]
abbrev Rc.sv (c : Rc) : List SV := [.str c.nm, .int .i64 c.cap, .int .i64 c.v, .raw (.slice c.ho c.holds.length c.hc), .raw (.slice c.uo c.used.length c.uc)]
abbrev Rc.val (c : Rc) : Value := .agg #[.string c.nm, .int .i64 c.cap, .int .i64 c.v, .slice c.ho c.holds.length c.hc, .slice c.uo c.used.length c.uc]
theorem rc_len (c : Rc) : c.l.length = 5 := rfl
abbrev hRow (o : Option Addr) (cap : Nat) (l : List (Int × Int)) : Rw := ⟨137, 2, o, l.length, cap, l.flatMap hlL⟩
abbrev uRow (o : Option Addr) (cap : Nat) (l : List Int) : Rw := ⟨3, 1, o, l.length, cap, ints l⟩
/-- Its rows stay. -/
structure InG (G : List Rw) (c : Rc) : Prop where
  h : hRow c.ho c.hc c.holds ∈ G
  u : uRow c.uo c.uc c.used ∈ G
theorem InG.mono {G G' : List Rw} {c : Rc} (h : InG G c) (hs : ∀ r ∈ G, r ∈ G') : InG G' c := ⟨hs _ h.h, hs _ h.u⟩

theorem aggInt : aggB Try.prog 3 = some false := by kernel_rfl
theorem aggStr : aggB Try.prog 9 = some false := by kernel_rfl
theorem aggLocked : aggB Try.prog 137 = some true := by kernel_rfl
theorem sizeLocked : sizeB Try.prog 137 = some 2 := by kernel_rfl
theorem aggCtr : aggB Try.prog 117 = some true := by kernel_rfl
theorem sizeCtr : sizeB Try.prog 117 = some 5 := by kernel_rfl
theorem elemLocked : sliceElem Try.prog 115 = some 137 := by kernel_rfl
theorem infoLocked : (Try.prog.info? 137).map (fun i => (i.zero, i.size, i.bytes)) = some (some (.agg #[.int .i64 0, .int .i64 0]), 2, 16) := by kernel_rfl
theorem elemInt : sliceElem Try.prog 30 = some 3 := by kernel_rfl
theorem infoInt : (Try.prog.info? 3).map (fun i => (i.zero, i.size, i.bytes)) = some (some (.int .i64 0), 1, 8) := by kernel_rfl

section
variable {G : List Rw} {c : Rc}
theorem hold_at {w : World} (h : (arRes G).R w) (hc : InG G c) {g : Nat} (ho : c.ho = some ⟨g, 0, none⟩) {i : Nat} {x : Int × Int} (hx : c.holds[i]? = some x) {j : Nat} (hj : j < 2) {u : Value} (hu : (hlL x)[j]? = some u) {a : Addr} (ha : a = (⟨g, 0, none⟩ : Addr).add (i * 2 + j)) : w.cell? a = some u := by
  have := arRes_at h hc.h
  dsimp only at this
  rw [ho] at this
  exact row_at hl_len this hx hj hu ha
theorem hold_some {w : World} (h : (arRes G).R w) (hc : InG G c) (hn : 0 < c.holds.length) : ∃ g, c.ho = some ⟨g, 0, none⟩ := rowRes_some' (arRes_at h hc.h) hn
theorem used_at {w : World} (h : (arRes G).R w) (hc : InG G c) {g : Nat} (ho : c.uo = some ⟨g, 0, none⟩) {i : Nat} {x : Int} (hx : c.used[i]? = some x) {a : Addr} (ha : a = (⟨g, 0, none⟩ : Addr).add i) : w.cell? a = some (.int .i64 x) := by
  have := arRes_at h hc.u
  dsimp only at this
  rw [ho] at this
  subst ha
  exact rowRes_cell this (by simp [hx])
theorem used_some {w : World} (h : (arRes G).R w) (hc : InG G c) (hn : 0 < c.used.length) : ∃ g, c.uo = some ⟨g, 0, none⟩ := rowRes_some' (arRes_at h hc.u) hn
end

/-! ### Held, amount, used -/
def heldStep (a : Int) (x : Int × Int) : Int := IntKind.i64.wrap (a + x.2)
def heldW (l : List (Int × Int)) : Int := l.foldl heldStep 0
theorem heldW_next {l : List (Int × Int)} {i : Nat} {x : Int × Int} (h : l[i]? = some x) : heldW (l.take (i + 1)) = IntKind.i64.wrap (heldW (l.take i) + x.2) := by
  unfold heldW
  rw [List.take_add_one, h]
  simp [heldStep]
theorem Held_ok {G : List Rw} {c : Rc} {w : World} (hR : (arRes G).R w) (hc : InG G c) (hl : c.holds.length ≤ 9223372036854775806) :
    Calls Try.prog 65 #[c.val] w fun e w' => e = .returned (.int .i64 (heldW c.holds)) ∧ Frm [] w w' := by
  obtain ⟨⟨nm, cp, v, holds, used⟩, ho, hcp, uo, uc⟩ := c
  dsimp only at hl ⊢
  have hI : Inv (cx 21 [] [] w) w [0] [⟨3, [.res (arRes G)], false⟩] := (Inv.nil w).consR (by simp) hR (arRes_lt hR) (by simp)
  refine calls_sm (cx 21 [] [] w) (vals := [.agg (Rc.sv ⟨⟨nm, cp, v, holds, used⟩, ho, hcp, uo, uc⟩)]) mixed Try.func65 rfl rfl rfl hI rfl (st rfl ?_); conv => arg 3; whnf
  refine gg ?_
  refine n_loop1 rfl fun n1 => ?_
  refine n_loop (σ := Nat) (fun i => [(1, .ptr 1 0), (3, .int .i64 (heldW (holds.take i))), (4, .int .i64 (i : Nat))]) (fun _ => [⟨3, [.res (arRes G)], false⟩, ⟨117, Rc.sv ⟨⟨nm, cp, v, holds, used⟩, ho, hcp, uo, uc⟩, true⟩]) (fun i => i ≤ holds.length) (fun i => holds.length - i) 0 mixed (by omega) (fun _ _ => rfl) rfl (by (repeat (first | exact trivial | refine ⟨⟨rfl, rfl⟩, ?_⟩))) (fun s _ => ⟨by (repeat (first | exact trivial | refine ⟨⟨_, rfl⟩, ?_⟩)), by (repeat (first | exact trivial | refine ⟨⟨_, rfl⟩, ?_⟩))⟩) fun i hi => ?_
  (refine gs ?_)
  by_cases hlt : i < holds.length
  · have ei : IntKind.i64.wrap ((i : Int) + 1) = ((i + 1 : Nat) : Int) := by rw [w64 (by omega) (by omega)]; simp
    have hs := hold_some hR hc (by dsimp only; omega)
    dsimp only at hs
    obtain ⟨g, rfl⟩ := hs
    have hx : holds[i]? = some holds[i] := List.getElem?_eq_getElem _
    generalize holds[i] = x at hx
    have hnx := heldW_next hx
    refine gw ?_
    refine n_ldI (.int .i64 x.2) rfl rfl (fun _ w1 _ hI1 => load_cell aggInt (hold_at (hI1.res 0 rfl rfl) hc rfl hx (j := 1) (by omega) rfl (by simp [add_add]))) ?_
    (refine gs ?_)
    refine gw ?_
    exact n_again ⟨i + 1, by omega, by omega, (by (repeat (first | exact trivial | refine ⟨⟨rfl, rfl⟩, ?_⟩ | refine ⟨⟨rfl, congrArg (SV.int .i64) ei⟩, ?_⟩ | refine ⟨⟨rfl, congrArg (SV.int .i64) hnx.symm⟩, ?_⟩))), ⟨_, rfl⟩⟩
  · obtain rfl : i = holds.length := by omega
    rw [List.take_length]
    refine gw ?_
    refine n_exit rfl ?_
    (refine gs ?_)
    refine gw ?_
    exact n_ret0 rfl rfl fun ids' w' hp hI' => ⟨rfl, hI'.frm⟩

def amountR : List (Int × Int) → Int → Int
  | [], _ => 0
  | x :: l, n => if x.1 = n then x.2 else amountR l n
theorem Amount_ok {G : List Rw} {c : Rc} {w : World} (hR : (arRes G).R w) (hc : InG G c) (hl : c.holds.length ≤ 9223372036854775806) (n : Int) :
    Calls Try.prog 68 #[c.val, .int .i64 n] w fun e w' => e = .returned (.int .i64 (amountR c.holds n)) ∧ Frm [] w w' := by
  obtain ⟨⟨nm, cp, v, holds, used⟩, ho, hcp, uo, uc⟩ := c
  dsimp only at hl ⊢
  have hI : Inv (cx 27 [] [] w) w [0] [⟨3, [.res (arRes G)], false⟩] := (Inv.nil w).consR (by simp) hR (arRes_lt hR) (by simp)
  refine calls_sm (cx 27 [] [] w) (vals := [.agg (Rc.sv (⟨⟨nm, cp, v, holds, used⟩, ho, hcp, uo, uc⟩ : Rc)), .int .i64 n]) mixed Try.func68 rfl rfl rfl hI rfl (st rfl ?_); conv => arg 3; whnf
  refine gg ?_
  refine n_loop1 rfl fun n1 => ?_
  refine n_loop (σ := Nat) (fun i => [(1, .int .i64 n), (2, .ptr 1 0), (5, .int .i64 (i : Nat))]) (fun _ => [⟨3, [.res (arRes G)], false⟩, ⟨117, Rc.sv (⟨⟨nm, cp, v, holds, used⟩, ho, hcp, uo, uc⟩ : Rc), true⟩]) (fun i => i ≤ holds.length ∧ amountR holds n = amountR (holds.drop i) n) (fun i => holds.length - i) 0 mixed (by simp) (fun _ _ => rfl) rfl (by (repeat (first | exact trivial | refine ⟨⟨rfl, rfl⟩, ?_⟩))) (fun s _ => ⟨by (repeat (first | exact trivial | refine ⟨⟨_, rfl⟩, ?_⟩)), by (repeat (first | exact trivial | refine ⟨⟨_, rfl⟩, ?_⟩))⟩) fun i hi => ?_
  obtain ⟨hi, hJ⟩ := hi
  (refine gs ?_)
  by_cases hlt : i < holds.length
  · have ei : IntKind.i64.wrap ((i : Int) + 1) = ((i + 1 : Nat) : Int) := by rw [w64 (by omega) (by omega)]; simp
    have hs := hold_some hR hc (by dsimp only; omega)
    dsimp only at hs
    obtain ⟨g, rfl⟩ := hs
    have hx : holds[i]? = some holds[i] := List.getElem?_eq_getElem _
    rw [List.drop_eq_getElem_cons hlt] at hJ
    generalize holds[i] = x at hx hJ
    refine gw ?_
    refine n_ldI (.int .i64 x.1) rfl rfl (fun _ w1 _ hI1 => load_cell aggInt (hold_at (hI1.res 0 rfl rfl) hc rfl hx (j := 0) (by omega) rfl (by simp [add_add]))) ?_
    (refine gs ?_)
    by_cases h1 : x.1 = n
    · (repeat ((first | refine n_must rfl ?_ | refine n_chk (drawF_ok (by decide +kernel)) ?_ | refine n_same rfl ?_ | ((first | refine n_must ?_ ?_ | refine n_brT ?_ ?_); (focus (first | (simp [h1]; done) | (simp [h1]; omega) | (simp only [h1]; simp; done)))) | (refine n_brF ?_ ?_; (focus (first | (simp [h1]; done) | (simp [h1]; omega) | (simp only [h1]; simp; done)))) | refine n_must (by (with_reducible refine and_shape ?_) <;> kernel_rfl) ?_); (refine gs ?_)))
      refine n_ldI (.int .i64 x.2) rfl rfl (fun _ w1 _ hI1 => load_cell aggInt (hold_at (hI1.res 0 rfl rfl) hc rfl hx (j := 1) (by omega) rfl (by simp [add_add]))) ?_
      (refine gs ?_)
      refine gw ?_
      refine n_leave ?_
      rw [hJ, amountR, if_pos h1]
      exact n_ret0 rfl rfl fun ids' w' hp hI' => ⟨rfl, hI'.frm⟩
    · (repeat ((first | refine n_must rfl ?_ | refine n_chk (drawF_ok (by decide +kernel)) ?_ | refine n_same rfl ?_ | ((first | refine n_must ?_ ?_ | refine n_brT ?_ ?_); (focus (first | (simp [h1]; done) | (simp [h1]; omega) | (simp only [h1]; simp; done)))) | (refine n_brF ?_ ?_; (focus (first | (simp [h1]; done) | (simp [h1]; omega) | (simp only [h1]; simp; done)))) | refine n_must (by (with_reducible refine and_shape ?_) <;> kernel_rfl) ?_); (refine gs ?_)))
      rw [amountR, if_neg h1] at hJ
      exact n_again ⟨i + 1, ⟨by omega, hJ⟩, by omega, (by (repeat (first | exact trivial | refine ⟨⟨rfl, rfl⟩, ?_⟩ | refine ⟨⟨rfl, congrArg (SV.int .i64) ei⟩, ?_⟩))), ⟨_, rfl⟩⟩
  · obtain rfl : i = holds.length := by omega
    refine gw ?_
    refine n_exit rfl ?_
    (refine gs ?_)
    refine gw ?_
    rw [hJ, List.drop_length, amountR]
    exact n_ret0 rfl rfl fun ids' w' hp hI' => ⟨rfl, hI'.frm⟩

def usedR (l : List Int) (n : Int) : Bool := l.contains n
theorem Used_ok {G : List Rw} {c : Rc} {w : World} (hR : (arRes G).R w) (hc : InG G c) (hl : c.used.length ≤ 9223372036854775806) (n : Int) :
    Calls Try.prog 66 #[c.val, .int .i64 n] w fun e w' => e = .returned (.bool (usedR c.used n)) ∧ Frm [] w w' := by
  obtain ⟨⟨nm, cp, v, holds, used⟩, ho, hcp, uo, uc⟩ := c
  dsimp only at hl ⊢
  have hI : Inv (cx 20 [] [] w) w [0] [⟨3, [.res (arRes G)], false⟩] := (Inv.nil w).consR (by simp) hR (arRes_lt hR) (by simp)
  refine calls_sm (cx 20 [] [] w) (vals := [.agg (Rc.sv (⟨⟨nm, cp, v, holds, used⟩, ho, hcp, uo, uc⟩ : Rc)), .int .i64 n]) mixed Try.func66 rfl rfl rfl hI rfl (st rfl ?_); conv => arg 3; whnf
  refine gg ?_
  refine n_loop1 rfl fun n1 => ?_
  refine n_loop (σ := Nat) (fun i => [(1, .int .i64 n), (2, .ptr 1 0), (5, .int .i64 (i : Nat))]) (fun _ => [⟨3, [.res (arRes G)], false⟩, ⟨117, Rc.sv (⟨⟨nm, cp, v, holds, used⟩, ho, hcp, uo, uc⟩ : Rc), true⟩]) (fun i => i ≤ used.length ∧ usedR used n = usedR (used.drop i) n) (fun i => used.length - i) 0 mixed (by simp) (fun _ _ => rfl) rfl (by (repeat (first | exact trivial | refine ⟨⟨rfl, rfl⟩, ?_⟩))) (fun s _ => ⟨by (repeat (first | exact trivial | refine ⟨⟨_, rfl⟩, ?_⟩)), by (repeat (first | exact trivial | refine ⟨⟨_, rfl⟩, ?_⟩))⟩) fun i hi => ?_
  obtain ⟨hi, hJ⟩ := hi
  (refine gs ?_)
  by_cases hlt : i < used.length
  · have ei : IntKind.i64.wrap ((i : Int) + 1) = ((i + 1 : Nat) : Int) := by rw [w64 (by omega) (by omega)]; simp
    have hs := used_some hR hc (by dsimp only; omega)
    dsimp only at hs
    obtain ⟨g, rfl⟩ := hs
    have hx : used[i]? = some used[i] := List.getElem?_eq_getElem _
    rw [List.drop_eq_getElem_cons hlt] at hJ
    generalize used[i] = x at hx hJ
    refine gw ?_
    refine n_ldI (.int .i64 x) rfl rfl (fun _ w1 _ hI1 => load_cell aggInt (used_at (hI1.res 0 rfl rfl) hc rfl hx (by simp [add_add]))) ?_
    (refine gs ?_)
    by_cases h1 : x = n
    · (repeat ((first | refine n_must rfl ?_ | refine n_chk (drawF_ok (by decide +kernel)) ?_ | refine n_same rfl ?_ | ((first | refine n_must ?_ ?_ | refine n_brT ?_ ?_); (focus (first | (simp [h1]; done) | (simp [h1]; omega) | (simp only [h1]; simp; done)))) | (refine n_brF ?_ ?_; (focus (first | (simp [h1]; done) | (simp [h1]; omega) | (simp only [h1]; simp; done)))) | refine n_must (by (with_reducible refine and_shape ?_) <;> kernel_rfl) ?_); (refine gs ?_)))
      refine n_leave ?_
      rw [hJ, show usedR (x :: used.drop (i + 1)) n = true by simp [usedR, h1]]
      exact n_ret0 rfl rfl fun ids' w' hp hI' => ⟨rfl, hI'.frm⟩
    · (repeat ((first | refine n_must rfl ?_ | refine n_chk (drawF_ok (by decide +kernel)) ?_ | refine n_same rfl ?_ | ((first | refine n_must ?_ ?_ | refine n_brT ?_ ?_); (focus (first | (simp [h1]; done) | (simp [h1]; omega) | (simp only [h1]; simp; done)))) | (refine n_brF ?_ ?_; (focus (first | (simp [h1]; done) | (simp [h1]; omega) | (simp only [h1]; simp; done)))) | refine n_must (by (with_reducible refine and_shape ?_) <;> kernel_rfl) ?_); (refine gs ?_)))
      rw [show usedR (x :: used.drop (i + 1)) n = usedR (used.drop (i + 1)) n by simp [usedR]; exact fun e => absurd e.symm h1] at hJ
      exact n_again ⟨i + 1, ⟨by omega, hJ⟩, by omega, (by (repeat (first | exact trivial | refine ⟨⟨rfl, rfl⟩, ?_⟩ | refine ⟨⟨rfl, congrArg (SV.int .i64) ei⟩, ?_⟩))), ⟨_, rfl⟩⟩
  · obtain rfl : i = used.length := by omega
    refine gw ?_
    refine n_exit rfl ?_
    (refine gs ?_)
    refine gw ?_
    rw [hJ, List.drop_length, show usedR [] n = false from rfl]
    exact n_ret0 rfl rfl fun ids' w' hp hI' => ⟨rfl, hI'.frm⟩

/-! ### without, with -/
def withoutR (l : List (Int × Int)) (n : Int) : List (Int × Int) := l.filter fun x => decide (x.1 ≠ n)
theorem withoutR_next {l : List (Int × Int)} {i : Nat} {x : Int × Int} (h : l[i]? = some x) (n : Int) : withoutR (l.take (i + 1)) n = if x.1 = n then withoutR (l.take i) n else withoutR (l.take i) n ++ [x] := by
  unfold withoutR
  rw [List.take_add_one, h, List.filter_append]
  by_cases e : x.1 = n <;> simp [e]
theorem withoutR_len (l : List (Int × Int)) (n : Int) : (withoutR l n).length ≤ l.length := List.length_filter_le _ _
abbrev hRes (y : Option Addr × Nat) (l : List (Int × Int)) : Res := rowRes 137 2 y.1 l.length y.2 (l.flatMap hlL)
abbrev FreshR (w w' : World) (ρ : Res) : Prop := Frm [] w w' ∧ ρ.R w' ∧ (∀ x ∈ ρ.fp, w.heap.size ≤ x) ∧ ∀ x ∈ ρ.fp, x < w'.heap.size
theorem Without_ok {G : List Rw} {c : Rc} {w : World} (hR : (arRes G).R w) (hc : InG G c) (hl : c.holds.length ≤ 8000000000000) (n : Int) :
    Calls Try.prog 69 #[c.val, .int .i64 n] w fun e w' => ∃ y : Option Addr × Nat, e = .returned (.slice y.1 (withoutR c.holds n).length y.2) ∧ True ∧ FreshR w w' (hRes y (withoutR c.holds n)) := by
  obtain ⟨it, hit, hparts⟩ := Option.map_eq_some_iff.1 infoLocked
  simp only [Prod.mk.injEq] at hparts
  obtain ⟨⟨nm, cp, v, holds, used⟩, ho, hcp, uo, uc⟩ := c
  dsimp only at hl ⊢
  have hI0 : Inv (cx 31 [] [] w) w [0] [⟨3, [.res (arRes G)], false⟩] := (Inv.nil w).consR (by simp) hR (arRes_lt hR) (by simp)
  have hI := hI0.consR (t := 137) (rw_ := true) (by simp [rowRes]) (rowRes_nil 137 2 _) (by simp [rowRes]) (by simp [rowRes])
  refine calls_sm (cx 31 [] [] w) (vals := [.agg (Rc.sv (⟨⟨nm, cp, v, holds, used⟩, ho, hcp, uo, uc⟩ : Rc)), .int .i64 n]) mixed Try.func69 rfl rfl rfl hI rfl (st rfl ?_); conv => arg 3; whnf
  refine gg ?_
  refine n_loop1 rfl fun n1 => ?_
  refine n_loop (σ := Nat × Option Addr × Nat) (fun t => [(1, .int .i64 n), (2, .ptr 2 0), (5, .raw (.slice t.2.1 (withoutR (holds.take t.1) n).length t.2.2)), (6, .int .i64 (t.1 : Nat))]) (fun t => [⟨3, [.res (arRes G)], false⟩, ⟨137, [.res (hRes t.2 (withoutR (holds.take t.1) n))], true⟩, ⟨117, Rc.sv (⟨⟨nm, cp, v, holds, used⟩, ho, hcp, uo, uc⟩ : Rc), true⟩]) (fun t => t.1 ≤ holds.length) (fun t => holds.length - t.1) (0, none, 0) mixed (by simp) (fun _ _ => rfl) rfl (by (repeat (first | exact trivial | refine ⟨⟨rfl, rfl⟩, ?_⟩))) (fun s _ => ⟨by (repeat (first | exact trivial | refine ⟨⟨_, rfl⟩, ?_⟩)), by (repeat (first | exact trivial | refine ⟨⟨_, rfl⟩, ?_⟩))⟩) fun t hi => ?_
  obtain ⟨i, o, cap⟩ := t
  dsimp only at hi ⊢
  (refine gs ?_)
  by_cases hlt : i < holds.length
  · have ei : IntKind.i64.wrap ((i : Int) + 1) = ((i + 1 : Nat) : Int) := by rw [w64 (by omega) (by omega)]; simp
    have hs := hold_some hR hc (by dsimp only; omega)
    dsimp only at hs
    obtain ⟨g, rfl⟩ := hs
    have hx : holds[i]? = some holds[i] := List.getElem?_eq_getElem _
    generalize holds[i] = x at hx
    have hnx := withoutR_next hx n
    have hwl := withoutR_len (holds.take i) n
    rw [List.length_take] at hwl
    generalize withoutR (holds.take i) n = W at hnx hwl
    refine gw ?_
    refine n_ldI (.int .i64 x.1) rfl rfl (fun _ w1 _ hI1 => load_cell aggInt (hold_at (hI1.res 0 rfl rfl) hc rfl hx (j := 0) (by omega) rfl (by simp [add_add]))) ?_
    (refine gs ?_)
    by_cases h1 : x.1 = n
    · rw [if_pos h1] at hnx
      (repeat ((first | refine n_must rfl ?_ | refine n_chk (drawF_ok (by decide +kernel)) ?_ | refine n_same rfl ?_ | ((first | refine n_must ?_ ?_ | refine n_brT ?_ ?_); (focus (first | (simp [h1]; done) | (simp [h1]; omega) | (simp only [h1]; simp; done)))) | (refine n_brF ?_ ?_; (focus (first | (simp [h1]; done) | (simp [h1]; omega) | (simp only [h1]; simp; done)))) | refine n_must (by (with_reducible refine and_shape ?_) <;> kernel_rfl) ?_); (refine gs ?_)))
      refine n_again ⟨(i + 1, o, cap), by dsimp only; omega, by dsimp only; omega, ?_, ?_⟩
      · dsimp only; rw [hnx]; exact (by (repeat (first | exact trivial | refine ⟨⟨rfl, rfl⟩, ?_⟩ | refine ⟨⟨rfl, congrArg (SV.int .i64) ei⟩, ?_⟩)))
      · dsimp only; rw [hnx]; exact ⟨_, rfl⟩
    · rw [if_neg h1] at hnx
      (repeat ((first | refine n_must rfl ?_ | refine n_chk (drawF_ok (by decide +kernel)) ?_ | refine n_same rfl ?_ | ((first | refine n_must ?_ ?_ | refine n_brT ?_ ?_); (focus (first | (simp [h1]; done) | (simp [h1]; omega) | (simp only [h1]; simp; done)))) | (refine n_brF ?_ ?_; (focus (first | (simp [h1]; done) | (simp [h1]; omega) | (simp only [h1]; simp; done)))) | refine n_must (by (with_reducible refine and_shape ?_) <;> kernel_rfl) ?_); (refine gs ?_)))
      refine n_ldI (.agg [.int .i64 x.1, .int .i64 x.2]) rfl rfl (fun _ w1 _ hI1 => load_row (l := hlL x) aggLocked sizeLocked fun j u hu => hold_at (hI1.res 0 rfl rfl) hc rfl hx (j := j) (by have := (List.getElem?_eq_some_iff.1 hu).1; simpa using this) hu (by simp [add_add])) ?_
      (refine gs ?_)
      refine gw ?_
      refine n_build1 rfl rfl elemLocked rfl rfl rfl rfl rfl rfl rfl rfl rfl ?_
      (refine gs ?_)
      refine gw ?_
      refine n_append (nv := hlL x) 1 rfl rfl elemLocked hit hparts.1 hparts.2.1 hparts.2.2 rfl (by omega) rfl rfl rfl rfl rfl rfl (by omega) (by simp [Value.oneCell']) (by omega) (by omega) (show W.flatMap hlL ++ hlL x = (W ++ [x]).flatMap hlL by simp) fun g' ca' => ?_
      rw [show W.length + 1 = (W ++ [x]).length by simp]
      (refine gs ?_)
      refine gw ?_
      refine n_again ⟨(i + 1, some ⟨g', 0, none⟩, ca'), by dsimp only; omega, by dsimp only; omega, ?_, ?_⟩
      · dsimp only; rw [hnx]; exact (by (repeat (first | exact trivial | refine ⟨⟨rfl, rfl⟩, ?_⟩ | refine ⟨⟨rfl, congrArg (SV.int .i64) ei⟩, ?_⟩)))
      · dsimp only; rw [hnx]; exact ⟨_, rfl⟩
  · obtain rfl : i = holds.length := by omega
    rw [List.take_length]
    refine gw ?_
    refine n_exit rfl ?_
    (refine gs ?_)
    refine gw ?_
    exact n_ret0 rfl rfl fun ids' w' hp hI' => ⟨⟨o, cap⟩, rfl, trivial, hI'.frm, hI'.res 1 rfl rfl, hI'.res_new 1 rfl rfl rfl (by simp), hI'.resLt 1 rfl rfl⟩
def withR (l : List (Int × Int)) (x : Int × Int) : List (Int × Int) := withoutR l x.1 ++ [x]
theorem With_ok {G : List Rw} {c : Rc} {w : World} (hR : (arRes G).R w) (hc : InG G c) (hl : c.holds.length ≤ 8000000000000) (x : Int × Int) :
    Calls Try.prog 67 #[c.val, .agg #[.int .i64 x.1, .int .i64 x.2]] w fun e w' => ∃ y : Option Addr × Nat, e = .returned (.slice y.1 (withR c.holds x).length y.2) ∧ True ∧ FreshR w w' (hRes y (withR c.holds x)) := by
  obtain ⟨it, hit, hparts⟩ := Option.map_eq_some_iff.1 infoLocked
  simp only [Prod.mk.injEq] at hparts
  have hI : Inv (cx 14 [] [] w) w [0] [⟨3, [.res (arRes G)], false⟩] := (Inv.nil w).consR (by simp) hR (arRes_lt hR) (by simp)
  refine calls_sm (cx 14 [] [] w) (vals := [.agg c.sv, .agg [.int .i64 x.1, .int .i64 x.2]]) mixed Try.func67 rfl rfl rfl hI rfl (st rfl ?_); conv => arg 3; whnf
  refine gg ?_
  refine n_call2 rfl fun b1 b2 => ?_
  refine n_callN (fun y : Option Addr × Nat => hRes y (withoutR c.holds x.1)) 137 (fun y => .raw (.slice y.1 (withoutR c.holds x.1).length y.2)) (fun y => .slice y.1 (withoutR c.holds x.1).length y.2) (fun _ => True) rfl rfl rfl (fun _ => rfl) (fun w1 hI1 => Without_ok (hI1.res 0 rfl rfl) hc hl x.1) ?_
  rintro ⟨o, cap⟩ _ hnew
  have hwl := withoutR_len c.holds x.1
  have hW : withR c.holds x = withoutR c.holds x.1 ++ [x] := rfl
  rw [hW]
  generalize withoutR c.holds x.1 = W at hwl
  (refine gs ?_)
  refine gw ?_
  refine n_build1 rfl rfl elemLocked rfl rfl rfl rfl rfl rfl rfl rfl rfl ?_
  (refine gs ?_)
  refine gw ?_
  refine n_append (nv := hlL x) 3 rfl rfl elemLocked hit hparts.1 hparts.2.1 hparts.2.2 rfl (by omega) rfl rfl rfl rfl rfl rfl (by omega) (by simp [Value.oneCell']) (by omega) (by omega) (show W.flatMap hlL ++ hlL x = (W ++ [x]).flatMap hlL by simp) fun g' ca' => ?_
  rw [show W.length + 1 = (W ++ [x]).length by simp]
  (refine gs ?_)
  refine gw ?_
  exact n_ret0 rfl rfl fun ids' w' hp hI' => ⟨⟨some ⟨g', 0, none⟩, ca'⟩, rfl, trivial, hI'.frm, hI'.res 3 rfl rfl, hI'.res_new 3 rfl rfl rfl (by simp), hI'.resLt 3 rfl rfl⟩
end
section
set_option maxRecDepth 100000
set_option linter.unusedSimpArgs false
set_option linter.unusedVariables false
set_option maxHeartbeats 4000000
open Go.RowKit

theorem bytes_eq (a b : ByteArray) : (a.toList == b.toList) = decide (a = b) := by
  rw [Bool.eq_iff_iff]
  simp only [beq_iff_eq, decide_eq_true_eq]
  constructor
  · intro h
    rw [ByteArray.toList_eq, ByteArray.toList_eq] at h
    exact ByteArray.ext (Array.ext' h)
  · intro h; rw [h]
theorem elemCtr : sliceElem Try.prog 109 = some 117 := by kernel_rfl
theorem infoCtr : (Try.prog.info? 117).map (fun i => (i.zero, i.size, i.bytes)) = some (some (.agg #[.string { data := #[] }, .int .i64 0, .int .i64 0, .slice none 0 0, .slice none 0 0]), 5, 80) := by kernel_rfl
abbrev cRes (y : Option Addr × Nat) (A : List Rc) : Res := rowRes 117 5 y.1 A.length y.2 (A.flatMap Rc.l)
abbrev rmMem (y : Option Addr × Nat) (A : List Rc) : Mem := [⟨111, [.raw (.slice y.1 A.length y.2)], true⟩, ⟨117, [.res (cRes y A)], true⟩]
def rmRes (p : Nat) (y : Option Addr × Nat) (A : List Rc) : Res := memRes [p, 0] (rmMem y A)
theorem rm_at {c : Ctx} {w1 : World} {ids' : List Nat} {mem' : Mem} (hI : Inv c w1 ids' mem') {p : Nat} {y : Option Addr × Nat} {A : List Rc} {q1 q2 : Bool} (i : Nat) (h0 : nth mem' i = some ⟨111, [.raw (.slice y.1 A.length y.2)], q1⟩)
    (h1 : nth mem' (i + 1) = some ⟨117, [.res (cRes y A)], q2⟩) (hp : ids'[i]? = some p) : (rmRes p y A).R w1 :=
  memRes_here hI [i, i + 1] (.blk h0 hp rfl rfl (.res h1 .nil (fun h => nomatch h)) (fun h => nomatch h)) (by simp)

/-! ### New, find -/
theorem rmNew_ok (w : World) : Calls Try.prog 37 #[] w fun e w' => ∃ y : Nat, e = .returned (pV y) ∧ True ∧ FreshR w w' (rmRes y (none, 0) []) := by
  have hI : Inv (cx 3 [] [] w) w [0] [⟨117, [.res (cRes (none, 0) [])], true⟩] := (Inv.nil w).consR (fun x hx => by cases hx) (rowRes_nil _ _ _) (fun x hx => by cases hx) (fun _ x hx => by cases hx)
  refine calls_sm (cx 3 [] [] w) (vals := []) mixed Try.func37 rfl rfl rfl hI rfl (st rfl ?_); conv => arg 3; whnf
  refine gw ?_
  refine n_ret rfl fun ids' w' hp hI' => ?_
  obtain ⟨p, rfl⟩ := ext1 hp (by rw [hI'.len]; rfl)
  refine ⟨_, rfl, p, rfl, trivial, ?_⟩
  exact fresh_shut hI' rfl [1, 0] (.blk rfl rfl rfl rfl (.res rfl .nil)) (by simp)

def findR (A : List Rc) (nm : ByteArray) : Option Nat := A.findIdx? fun c => decide (c.nm = nm)
def findI (A : List Rc) (nm : ByteArray) : Int := match findR A nm with | some i => i | none => -1
theorem Find_ok {p : Nat} {y : Option Addr × Nat} {A : List Rc} {w : World} (hR : (rmRes p y A).R w) (hl : A.length ≤ 8000000000000) (nm : ByteArray) :
    Calls Try.prog 51 #[pV p, .string nm] w fun e w' => e = .returned (.int .i64 (findI A nm)) ∧ Frm [] w w' := by
  obtain ⟨o, cap⟩ := y
  have hI : Inv (cx 26 [] [] w) w [p, 0] (ro (rmMem (o, cap) A)) := memRes_read hR
  refine calls_sm (cx 26 [] [] w) (vals := [.ptr 0 0, .str nm]) mixed Try.func51 rfl rfl rfl hI rfl (st rfl ?_); conv => arg 3; whnf
  refine gg ?_
  refine n_loop (σ := Nat) (fun i => [(0, .ptr 0 0), (1, .str nm), (5, .int .i64 (i : Nat))]) (fun _ => ro (rmMem (o, cap) A)) (fun i => i ≤ A.length ∧ ∀ j (hj : j < A.length), j < i → A[j].nm ≠ nm) (fun i => A.length - i) 0 mixed ⟨by omega, by intro j _ h; omega⟩ (fun _ _ => rfl) rfl (by (repeat (first | exact trivial | refine ⟨⟨rfl, rfl⟩, ?_⟩))) (fun s _ => ⟨by (repeat (first | exact trivial | refine ⟨⟨_, rfl⟩, ?_⟩)), by (repeat (first | exact trivial | refine ⟨⟨_, rfl⟩, ?_⟩))⟩) fun i hi => ?_
  obtain ⟨hi, hJ⟩ := hi
  (refine gs ?_)
  by_cases hlt : i < A.length
  · have ei : IntKind.i64.wrap ((i : Int) + 1) = ((i + 1 : Nat) : Int) := by rw [w64 (by omega) (by omega)]; simp
    have hs := rowRes_some' (memRes_res hR 1 rfl rfl) (show 0 < A.length by omega)
    dsimp only at hs
    obtain ⟨g, rfl⟩ := hs
    have hx : A[i]? = some A[i] := List.getElem?_eq_getElem _
    generalize hxe : A[i] = x at hx
    refine gw ?_
    refine n_ldI (.str x.nm) rfl rfl (fun _ w1 _ hI1 => load_cell aggStr (row_at rc_len (hI1.res 1 rfl rfl) hx (j := 0) (by omega) rfl (by simp [add_add]))) ?_
    (refine gs ?_)
    refine gw ?_
    by_cases h1 : x.nm = nm
    · refine n_brT (by rw [bytes_eq]; simp [h1]) ?_
      (refine gs ?_)
      refine gw ?_
      refine n_leave ?_
      have e : findI A nm = i := by
        have : findR A nm = some i := by
          rw [findR, List.findIdx?_eq_some_iff_getElem]
          exact ⟨hlt, by rw [hxe]; simpa using h1, fun j hj => by simpa using hJ j (by omega) hj⟩
        rw [findI, this]
      rw [e]
      exact n_ret0 rfl rfl fun ids' w' hp hI' => ⟨rfl, hI'.frm⟩
    · refine n_brF (by rw [bytes_eq]; simp [h1]) ?_
      (refine gs ?_)
      refine gw ?_
      refine n_again ⟨i + 1, ⟨by omega, fun j hj hji => ?_⟩, by omega, (by (repeat (first | exact trivial | refine ⟨⟨rfl, rfl⟩, ?_⟩ | refine ⟨⟨rfl, congrArg (SV.int .i64) ei⟩, ?_⟩))), ⟨_, rfl⟩⟩
      by_cases e : j = i
      · subst e; rw [hxe]; exact h1
      · exact hJ j hj (by omega)
  · obtain rfl : i = A.length := by omega
    refine gw ?_
    refine n_exit rfl ?_
    (refine gs ?_)
    refine gw ?_
    have e : findI A nm = -1 := by
      have : findR A nm = none := by
        rw [findR, List.findIdx?_eq_none_iff]
        intro x hx
        obtain ⟨j, hj, rfl⟩ := List.getElem_of_mem hx
        simpa using hJ j hj hj
      rw [findI, this]
    rw [e]
    exact n_ret0 rfl rfl fun ids' w' hp hI' => ⟨rfl, hI'.frm⟩

/-! ### Right -/
def fromB (lo n : Int) : Bool := decide (lo ≤ n) && decide (n ≤ 1099511627776)
theorem from_ok (lo n : Int) (w : World) : Calls Try.prog 64 #[.int .i64 lo, .int .i64 n] w fun e w' => e = .returned (.bool (fromB lo n)) ∧ Frm [] w w' := by
  have hI := Inv.nil (P := Try.prog) (N := 12) (S := []) (os := []) w
  refine calls_sm (cx 12 [] [] w) (vals := [.int .i64 lo, .int .i64 n]) mixed Try.func64 rfl rfl rfl hI rfl (st rfl ?_); conv => arg 3; whnf
  (repeat' (first | ((first | refine n_must rfl ?_ | refine n_chk (drawF_ok (by decide +kernel)) ?_ | refine n_same rfl ?_); (refine gs ?_)) | (((first | ((first | refine n_must ?_ ?_ | refine n_brT ?_ ?_); (focus (first | (simp; done) | (simp; omega)))) | (refine n_brF ?_ ?_; (focus (first | (simp; done) | (simp; omega)))))); (refine gs ?_)) | (refine n_br (fun hbr => ?_) (fun hbr => ?_) <;> simp at hbr <;> (refine gs ?_))))
  all_goals refine n_ret0 rfl rfl fun ids' w' hp hI' => ⟨ret_bool ?_, hI'.frm⟩
  all_goals (simp [fromB]; try omega)
theorem from1 (n : Int) : fromB 1 n = amountB n := rfl
theorem rRight16_ok (k : Int) (s : ByteArray) (a b : Int) (w : World) :
    Calls Try.prog 49 #[.agg #[.int .i64 k, .string s, .int .i64 a, .int .i64 b]] w fun e w' => e = .returned (.bool (rightB k s a b)) ∧ Frm [] w w' := by
  have hI := Inv.nil (P := Try.prog) (N := 94) (S := []) (os := []) w
  refine calls_sm (cx 94 [] [] w) (vals := [.agg [.int .i64 k, .str s, .int .i64 a, .int .i64 b]]) mixed Try.func49 rfl rfl rfl hI rfl (st rfl ?_); conv => arg 3; whnf
  repeat' (first | (refine n_sameP (.bool (namedB s)) rfl rfl rfl (fun _ w1 hp1 hI1 => rGood_ok s w1) ?_; (refine gs ?_)) | (refine n_sameP (.bool (fromB _ _)) rfl rfl rfl (fun _ w1 hp1 hI1 => from_ok _ _ w1) ?_; (refine gs ?_)) | (refine n_must rfl ?_; (refine gs ?_)) | (refine n_chk (drawF_ok (by decide +kernel)) ?_; (refine gs ?_)) | (refine n_same rfl ?_; (refine gs ?_)) | (refine n_brT ?_ ?_; (focus (simp [*]; done)); (refine gs ?_)) | (refine n_brF ?_ ?_; (focus (simp [*]; done)); (refine gs ?_)) | (refine n_br (fun hbr => ?_) (fun hbr => ?_) <;> (try simp at hbr) <;> (refine gs ?_)))
  all_goals first | refine n_ret0 rfl rfl fun ids' w' hp hI' => ⟨ret_bool ?_, hI'.frm⟩ | trace_state
  all_goals clear hI' hp hI
  all_goals try simp only [fromB, Bool.and_eq_true, Bool.and_eq_false_iff, decide_eq_true_eq, decide_eq_false_iff_not] at *
  all_goals first | (simp [rightB, fromB, amountB, *]; done) | (rw [Bool.eq_iff_iff]; simp [rightB, fromB, amountB, *] <;> first | omega | (intros; omega) | trace_state)
end
section
set_option maxRecDepth 100000
set_option linter.unusedSimpArgs false
set_option linter.unusedVariables false
set_option maxHeartbeats 4000000
open Go.RowKit

theorem take_next {α : Type} {l : List α} {i : Nat} {x : α} (h : l[i]? = some x) : l.take (i + 1) = l.take i ++ [x] := by
  rw [List.take_add_one, h]; rfl
theorem rmCopy_ok {p : Nat} {y : Option Addr × Nat} {A : List Rc} {w : World} (hR : (rmRes p y A).R w) (hl : A.length ≤ 1759218604441) :
    Calls Try.prog 56 #[pV p] w fun e w' => ∃ z : Nat × Option Addr × Nat, e = .returned (pV z.1) ∧ True ∧ FreshR w w' (rmRes z.1 z.2 A) := by
  obtain ⟨it, hit, hparts⟩ := Option.map_eq_some_iff.1 infoCtr
  simp only [Prod.mk.injEq] at hparts
  obtain ⟨oo, ccap⟩ := y
  have hI0 : Inv (cx 33 [(5, .of [(0, []), (1, []), (2, []), (3, []), (4, []), (5, []), (6, []), (7, []), (8, []), (9, []), (10, []), (11, []), (12, [4]), (13, []), (14, []), (15, []), (16, [])])] [] w) w [p, 0] (ro (rmMem (oo, ccap) A)) := memRes_read hR
  have hI := hI0.consR (t := 117) (rw_ := true) (r := cRes (none, 0) []) (fun x hx => by cases hx) (rowRes_nil _ _ _) (fun x hx => by cases hx) (fun _ x hx => by cases hx)
  refine calls_sm (cx 33 [(5, .of [(0, []), (1, []), (2, []), (3, []), (4, []), (5, []), (6, []), (7, []), (8, []), (9, []), (10, []), (11, []), (12, [4]), (13, []), (14, []), (15, []), (16, [])])] [] w) (vals := [.ptr 0 0]) mixed Try.func56 rfl rfl rfl hI rfl (st rfl ?_); conv => arg 3; whnf
  refine gg ?_
  refine n_loop1 rfl fun q => ?_
  refine n_loop (σ := Nat × Option Addr × Nat) (fun t => [(0, .ptr 0 0), (3, .ptr 3 0), (4, .int .i64 (t.1 : Nat))]) (fun t => ro (rmMem (oo, ccap) A) ++ [⟨117, [.res (cRes t.2 (A.take t.1))], true⟩, ⟨111, [.raw (.slice t.2.1 (A.take t.1).length t.2.2)], true⟩]) (fun t => t.1 ≤ A.length) (fun t => A.length - t.1) (0, none, 0) mixed (by simp) (fun _ _ => rfl) rfl (by (repeat (first | exact trivial | refine ⟨⟨rfl, rfl⟩, ?_⟩))) (fun s _ => ⟨by (repeat (first | exact trivial | refine ⟨⟨_, rfl⟩, ?_⟩)), by (repeat (first | exact trivial | refine ⟨⟨_, rfl⟩, ?_⟩))⟩) fun t hi => ?_
  obtain ⟨i, o, cap⟩ := t
  dsimp only at hi ⊢
  (refine gs ?_)
  by_cases hlt : i < A.length
  · have ei : IntKind.i64.wrap ((i : Int) + 1) = ((i + 1 : Nat) : Int) := by rw [w64 (by omega) (by omega)]; simp
    have hs := rowRes_some' (memRes_res hR 1 rfl rfl) (show 0 < A.length by omega)
    dsimp only at hs
    obtain ⟨g, rfl⟩ := hs
    have hx : A[i]? = some A[i] := List.getElem?_eq_getElem _
    generalize A[i] = x at hx
    have hnx := take_next hx
    have hTl : (A.take i).length ≤ i := by rw [List.length_take]; omega
    generalize A.take i = T at hnx hTl
    refine gw ?_
    refine n_ldDI (.agg x.sv) rfl rfl (fun _ w1 _ hI1 => load_row (l := x.l) aggCtr sizeCtr fun j u hu => row_at rc_len (hI1.res 1 rfl rfl) hx (j := j) (by have := (List.getElem?_eq_some_iff.1 hu).1; simpa using this) hu (by simp [add_add])) ?_
    (refine gs ?_)
    refine gw ?_
    refine n_build1 rfl rfl elemCtr rfl rfl rfl rfl rfl rfl rfl rfl rfl ?_
    (refine gs ?_)
    refine gw ?_
    refine n_append (nv := x.l) 2 rfl rfl elemCtr hit hparts.1 hparts.2.1 hparts.2.2 rfl (by omega) rfl rfl rfl rfl rfl rfl (by omega) (by simp [Value.oneCell']) (by omega) (by omega) (show T.flatMap Rc.l ++ x.l = (T ++ [x]).flatMap Rc.l by simp) fun g' ca' => ?_
    rw [show T.length + 1 = (T ++ [x]).length by simp]
    (refine gs ?_)
    refine gw ?_
    refine n_again ⟨(i + 1, some ⟨g', 0, none⟩, ca'), by dsimp only; omega, by dsimp only; omega, ?_, ?_⟩
    · dsimp only; exact (by (repeat (first | exact trivial | refine ⟨⟨rfl, rfl⟩, ?_⟩ | refine ⟨⟨rfl, congrArg (SV.int .i64) ei⟩, ?_⟩)))
    · dsimp only; rw [hnx]; exact ⟨_, rfl⟩
  · obtain rfl : i = A.length := by omega
    rw [List.take_length]
    refine gw ?_
    refine n_exit rfl ?_
    (refine gs ?_)
    refine gw ?_
    exact n_ret0 rfl rfl fun ids' w' hp hI' => ⟨⟨q, o, cap⟩, rfl, trivial, fresh_shut hI' rfl [3, 2] (.blk rfl (pre_at hp rfl) rfl rfl (.res rfl .nil)) (by simp)⟩

/-! ### create -/
def ltS (a b : ByteArray) : Bool := Op.bytesLess a.toList b.toList
theorem bytesLess_lt : ∀ (x y : List UInt8), Op.bytesLess x y = decide (x < y)
  | [], [] => by simp [Op.bytesLess]
  | _ :: _, [] => by simp [Op.bytesLess]
  | [], _ :: _ => by simp [Op.bytesLess]
  | a :: x, b :: y => by
    rw [Op.bytesLess, bytesLess_lt x y]
    simp only [List.cons_lt_cons_iff]
    by_cases h1 : a < b <;> by_cases h2 : a = b <;> by_cases h3 : x < y <;> simp [h1, h2, h3]
theorem gtS_eq (a b : ByteArray) : (!Op.bytesLess a.toList b.toList && !(a.toList == b.toList)) = ltS b a := by
  unfold ltS
  rw [bytesLess_lt, bytesLess_lt, Bool.eq_iff_iff]
  simp only [Bool.and_eq_true, Bool.not_eq_true', decide_eq_true_eq, decide_eq_false_iff_not, beq_eq_false_iff_ne, ne_eq]
  constructor
  · rintro ⟨h1, h2⟩
    rcases Decidable.em (b.toList < a.toList) with e | e
    · exact e
    · exact absurd (List.le_antisymm (List.not_lt.1 e) (List.not_lt.1 h1)) h2
  · intro h
    exact ⟨List.lt_asymm h, fun e => by rw [e] at h; exact List.lt_irrefl _ h⟩
def putStep (c : Rc) (a : List Rc × Bool) (x : Rc) : List Rc × Bool := if a.2 = false ∧ ltS c.nm x.nm = true then (a.1 ++ [c] ++ [x], true) else (a.1 ++ [x], a.2)
def putT (c : Rc) (A : List Rc) : List Rc × Bool := A.foldl (putStep c) ([], false)
def putL (c : Rc) (A : List Rc) : List Rc := if (putT c A).2 then (putT c A).1 else (putT c A).1 ++ [c]
theorem putT_next {c : Rc} {A : List Rc} {i : Nat} {x : Rc} (h : A[i]? = some x) : putT c (A.take (i + 1)) = putStep c (putT c (A.take i)) x := by
  unfold putT
  rw [take_next h]
  simp
theorem putT_len (c : Rc) (A : List Rc) : (putT c A).1.length = A.length + (putT c A).2.toNat := by
  have key : ∀ (l : List Rc) (a : List Rc × Bool), (l.foldl (putStep c) a).1.length + a.2.toNat = l.length + a.1.length + (l.foldl (putStep c) a).2.toNat := by
    intro l
    induction l with
    | nil => intro a; simp
    | cons x l ih =>
      intro a
      have h := ih (putStep c a x)
      simp only [List.foldl_cons, List.length_cons]
      have h2 : (putStep c a x).1.length + a.2.toNat = a.1.length + 1 + (putStep c a x).2.toNat := by
        unfold putStep
        split
        · rename_i h1; rw [h1.1]; simp
        · simp
      omega
  have h := key A ([], false)
  simpa [putT] using h
theorem putT_le (c : Rc) (A : List Rc) : (putT c A).1.length ≤ A.length + 1 := by
  rw [putT_len]
  have : (putT c A).2.toNat ≤ 1 := by cases (putT c A).2 <;> simp
  omega
abbrev newRc (nm : ByteArray) (a b : Int) : Rc := ⟨⟨nm, a, b, [], []⟩, none, 0, none, 0⟩
def createF (A : List Rc) (nm : ByteArray) (a b : Int) : List Rc × Int × Int :=
  if 0 ≤ findI A nm then (A, 0, 101) else if a < b then (A, 0, 61) else (putL (newRc nm a b) A, 0, 0)
theorem rmCreate_ok {p : Nat} {y : Option Addr × Nat} {A : List Rc} {w : World} (hR : (rmRes p y A).R w) (hl : A.length ≤ 1759218604439) (k : Int) (nm : ByteArray) (a b : Int) :
    Calls Try.prog 50 #[pV p, .agg (opV k nm a b)] w fun e w' => ∃ z : Option Addr × Nat, e = .returned (ansV (createF A nm a b).2.1 (createF A nm a b).2.2) ∧ True ∧ Post (rmRes p y A) (rmRes p z (createF A nm a b).1) w w' := by
  obtain ⟨it, hit, hparts⟩ := Option.map_eq_some_iff.1 infoCtr
  simp only [Prod.mk.injEq] at hparts
  obtain ⟨oo, ccap⟩ := y
  have hI0 : Inv (cx 75 [] (rmRes p (oo, ccap) A).fp w) w [p, 0] (rmMem (oo, ccap) A) := memRes_open hR fun x hx => hx
  have hI := hI0.consR (t := 117) (rw_ := true) (r := cRes (none, 0) []) (fun x hx => by cases hx) (rowRes_nil _ _ _) (fun x hx => by cases hx) (fun _ x hx => by cases hx)
  refine calls_sm (cx 75 [] (rmRes p (oo, ccap) A).fp w) (vals := [.ptr 0 0, .agg (opS k nm a b)]) mixed Try.func50 rfl rfl rfl hI rfl (st rfl ?_); conv => arg 3; whnf
  refine gg ?_
  refine n_sameP (.int .i64 (findI A nm)) rfl rfl rfl (fun _ w1 hp1 hI1 => Find_ok (rm_at (y := (oo, ccap)) hI1 0 rfl rfl (pre_at hp1 rfl)) (by omega) nm) ?_; (refine gs ?_)
  by_cases h1 : 0 ≤ findI A nm
  · (repeat ((first | refine n_must rfl ?_ | refine n_chk (drawF_ok (by decide +kernel)) ?_ | refine n_same rfl ?_ | ((first | refine n_must ?_ ?_ | refine n_brT ?_ ?_); (focus (first | (simp [h1]; done) | (simp [h1]; omega) | (simp only [h1]; simp; done)))) | (refine n_brF ?_ ?_; (focus (first | (simp [h1]; done) | (simp [h1]; omega) | (simp only [h1]; simp; done)))) | refine n_must (by (with_reducible refine and_shape ?_) <;> kernel_rfl) ?_); (refine gs ?_)))
    have e : createF A nm a b = (A, 0, 101) := by rw [createF, if_pos h1]
    rw [e]
    exact n_ret0 rfl rfl fun ids' w' hp hI' => ⟨(oo, ccap), rfl, trivial, post_shut hI' rfl [0, 1] (.blk rfl (pre_at hp rfl) rfl rfl (.res rfl .nil)) (by simp)⟩
  by_cases h2 : a < b
  · (repeat ((first | refine n_must rfl ?_ | refine n_chk (drawF_ok (by decide +kernel)) ?_ | refine n_same rfl ?_ | ((first | refine n_must ?_ ?_ | refine n_brT ?_ ?_); (focus (first | (simp [h1, h2]; done) | (simp [h1, h2]; omega) | (simp only [h1, h2]; simp; done)))) | (refine n_brF ?_ ?_; (focus (first | (simp [h1, h2]; done) | (simp [h1, h2]; omega) | (simp only [h1, h2]; simp; done)))) | refine n_must (by (with_reducible refine and_shape ?_) <;> kernel_rfl) ?_); (refine gs ?_)))
    have e : createF A nm a b = (A, 0, 61) := by rw [createF, if_neg h1, if_pos h2]
    rw [e]
    exact n_ret0 rfl rfl fun ids' w' hp hI' => ⟨(oo, ccap), rfl, trivial, post_shut hI' rfl [0, 1] (.blk rfl (pre_at hp rfl) rfl rfl (.res rfl .nil)) (by simp)⟩
  have hF : createF A nm a b = (putL (newRc nm a b) A, 0, 0) := by rw [createF, if_neg h1, if_neg h2]
  rw [hF]
  (repeat ((first | refine n_must rfl ?_ | refine n_chk (drawF_ok (by decide +kernel)) ?_ | refine n_same rfl ?_ | ((first | refine n_must ?_ ?_ | refine n_brT ?_ ?_); (focus (first | (simp [h1, h2]; done) | (simp [h1, h2]; omega) | (simp only [h1, h2]; simp; done)))) | (refine n_brF ?_ ?_; (focus (first | (simp [h1, h2]; done) | (simp [h1, h2]; omega) | (simp only [h1, h2]; simp; done)))) | refine n_must (by (with_reducible refine and_shape ?_) <;> kernel_rfl) ?_); (refine gs ?_)))
  refine n_loop2 rfl fun q1 q2 => ?_
  refine n_loop (σ := Nat × Option Addr × Nat) (fun t => [(0, .ptr 0 0), (6, .ptr 4 0), (7, .raw (.slice t.2.1 (putT (newRc nm a b) (A.take t.1)).1.length t.2.2)), (8, litB (putT (newRc nm a b) (A.take t.1)).2), (9, .int .i64 (t.1 : Nat))]) (fun t => rmMem (oo, ccap) A ++ [⟨117, [.res (cRes t.2 (putT (newRc nm a b) (A.take t.1)).1)], true⟩, ⟨50, opS k nm a b, true⟩, ⟨117, (newRc nm a b).sv, true⟩]) (fun t => t.1 ≤ A.length) (fun t => A.length - t.1) (0, none, 0) mixed (by simp) (fun _ _ => rfl) rfl (by (repeat (first | exact trivial | refine ⟨⟨rfl, rfl⟩, ?_⟩))) (fun t _ => ⟨by cases h : (putT (newRc nm a b) (A.take t.1)).2 <;> (repeat (first | exact trivial | refine ⟨⟨_, rfl⟩, ?_⟩)), by (repeat (first | exact trivial | refine ⟨⟨_, rfl⟩, ?_⟩))⟩) fun t hi => ?_
  obtain ⟨i, o, cap⟩ := t
  dsimp only at hi ⊢
  have hTl := putT_le (newRc nm a b) (A.take i)
  rw [List.length_take] at hTl
  by_cases hlt : i < A.length
  · have ei : IntKind.i64.wrap ((i : Int) + 1) = ((i + 1 : Nat) : Int) := by rw [w64 (by omega) (by omega)]; simp
    have hs := rowRes_some' (memRes_res hR 1 rfl rfl) (show 0 < A.length by omega)
    dsimp only at hs
    obtain ⟨g, rfl⟩ := hs
    have hx : A[i]? = some A[i] := List.getElem?_eq_getElem _
    generalize A[i] = x at hx
    have hnx := putT_next (c := newRc nm a b) hx
    generalize putT (newRc nm a b) (A.take i) = T at hnx hTl
    obtain ⟨l, bb⟩ := T
    cases bb with
    | true =>
      have hst : putStep (newRc nm a b) (l, true) x = (l ++ [x], true) := by unfold putStep; rw [if_neg (by simp)]
      (refine gs ?_)
      refine gw ?_
      refine n_ldI (.agg x.sv) rfl rfl (fun _ w1 _ hI1 => load_row (l := x.l) aggCtr sizeCtr fun j u hu => row_at rc_len (hI1.res 1 rfl rfl) hx (j := j) (by have := (List.getElem?_eq_some_iff.1 hu).1; simpa using this) hu (by simp [add_add])) ?_
      (refine gs ?_)
      refine gw ?_
      refine n_build1 rfl rfl elemCtr rfl rfl rfl rfl rfl rfl rfl rfl rfl ?_
      (refine gs ?_)
      refine gw ?_
      refine n_append (nv := Rc.l x) 2 rfl rfl elemCtr hit hparts.1 hparts.2.1 hparts.2.2 rfl (by omega) rfl rfl rfl rfl rfl rfl (by omega) (by simp [Value.oneCell']) (by simp at hTl ⊢; omega) (by simp at hTl ⊢; omega) (show (l).flatMap Rc.l ++ Rc.l x = (l ++ [x]).flatMap Rc.l by simp) fun g' ca' => ?_
      rw [show (l).length + 1 = (l ++ [x]).length by simp]
      (refine gs ?_)
      refine gw ?_
      rw [hst] at hnx
      refine n_again ⟨(i + 1, some ⟨g', 0, none⟩, ca'), by dsimp only; omega, by dsimp only; omega, ?_, ?_⟩
      · dsimp only; rw [hnx]; exact (by (repeat (first | exact trivial | refine ⟨⟨rfl, rfl⟩, ?_⟩ | refine ⟨⟨rfl, congrArg (SV.int .i64) ei⟩, ?_⟩)))
      · dsimp only; rw [hnx]; exact ⟨_, rfl⟩
    | false =>
      cases hlt2 : ltS nm x.nm with
      | true =>
        have hlt2' : Op.bytesLess nm.toList x.nm.toList = true := hlt2
        have hst : putStep (newRc nm a b) (l, false) x = (l ++ [newRc nm a b] ++ [x], true) := by unfold putStep; rw [if_pos ⟨rfl, hlt2⟩]
        (refine gs ?_)
        refine gw ?_
        refine n_ldDI (.str x.nm) rfl rfl (fun _ w1 _ hI1 => load_cell aggStr (row_at rc_len (hI1.res 1 rfl rfl) hx (j := 0) (by omega) rfl (by simp [add_add]))) ?_
        (refine gs ?_)
        refine gw ?_
        refine n_brT (by rw [gtS_eq]; exact hlt2) ?_
        (refine gs ?_)
        refine gw ?_
        refine n_build1 rfl rfl elemCtr rfl rfl rfl rfl rfl rfl rfl rfl rfl ?_
        (refine gs ?_)
        refine gw ?_
        refine n_append (nv := Rc.l (newRc nm a b)) 2 rfl rfl elemCtr hit hparts.1 hparts.2.1 hparts.2.2 rfl (by omega) rfl rfl rfl rfl rfl rfl (by omega) (by simp [Value.oneCell']) (by simp at hTl ⊢; omega) (by simp at hTl ⊢; omega) (show (l).flatMap Rc.l ++ Rc.l (newRc nm a b) = (l ++ [(newRc nm a b)]).flatMap Rc.l by simp) fun g' ca' => ?_
        rw [show (l).length + 1 = (l ++ [(newRc nm a b)]).length by simp]
        (refine gs ?_)
        refine gw ?_
        refine n_ldI (.agg x.sv) rfl rfl (fun _ w1 _ hI1 => load_row (l := x.l) aggCtr sizeCtr fun j u hu => row_at rc_len (hI1.res 1 rfl rfl) hx (j := j) (by have := (List.getElem?_eq_some_iff.1 hu).1; simpa using this) hu (by simp [add_add])) ?_
        (refine gs ?_)
        refine gw ?_
        refine n_build1 rfl rfl elemCtr rfl rfl rfl rfl rfl rfl rfl rfl rfl ?_
        (refine gs ?_)
        refine gw ?_
        refine n_append (nv := Rc.l x) 2 rfl rfl elemCtr hit hparts.1 hparts.2.1 hparts.2.2 rfl (by omega) rfl rfl rfl rfl rfl rfl (by omega) (by simp [Value.oneCell']) (by simp at hTl ⊢; omega) (by simp at hTl ⊢; omega) (show (l ++ [newRc nm a b]).flatMap Rc.l ++ Rc.l x = (l ++ [newRc nm a b] ++ [x]).flatMap Rc.l by simp) fun g' ca' => ?_
        rw [show (l ++ [newRc nm a b]).length + 1 = (l ++ [newRc nm a b] ++ [x]).length by simp]
        (refine gs ?_)
        refine gw ?_
        rw [hst] at hnx
        refine n_again ⟨(i + 1, some ⟨g', 0, none⟩, ca'), by dsimp only; omega, by dsimp only; omega, ?_, ?_⟩
        · dsimp only; rw [hnx]; exact (by (repeat (first | exact trivial | refine ⟨⟨rfl, rfl⟩, ?_⟩ | refine ⟨⟨rfl, congrArg (SV.int .i64) ei⟩, ?_⟩)))
        · dsimp only; rw [hnx]; exact ⟨_, rfl⟩
      | false =>
        have hlt2' : Op.bytesLess nm.toList x.nm.toList = false := hlt2
        have hst : putStep (newRc nm a b) (l, false) x = (l ++ [x], false) := by unfold putStep; rw [if_neg (by simp [hlt2])]
        (refine gs ?_)
        refine gw ?_
        refine n_ldDI (.str x.nm) rfl rfl (fun _ w1 _ hI1 => load_cell aggStr (row_at rc_len (hI1.res 1 rfl rfl) hx (j := 0) (by omega) rfl (by simp [add_add]))) ?_
        (refine gs ?_)
        refine gw ?_
        refine n_brF (by rw [gtS_eq]; exact hlt2) ?_
        (refine gs ?_)
        refine gw ?_
        refine n_ldI (.agg x.sv) rfl rfl (fun _ w1 _ hI1 => load_row (l := x.l) aggCtr sizeCtr fun j u hu => row_at rc_len (hI1.res 1 rfl rfl) hx (j := j) (by have := (List.getElem?_eq_some_iff.1 hu).1; simpa using this) hu (by simp [add_add])) ?_
        (refine gs ?_)
        refine gw ?_
        refine n_build1 rfl rfl elemCtr rfl rfl rfl rfl rfl rfl rfl rfl rfl ?_
        (refine gs ?_)
        refine gw ?_
        refine n_append (nv := Rc.l x) 2 rfl rfl elemCtr hit hparts.1 hparts.2.1 hparts.2.2 rfl (by omega) rfl rfl rfl rfl rfl rfl (by omega) (by simp [Value.oneCell']) (by simp at hTl ⊢; omega) (by simp at hTl ⊢; omega) (show (l).flatMap Rc.l ++ Rc.l x = (l ++ [x]).flatMap Rc.l by simp) fun g' ca' => ?_
        rw [show (l).length + 1 = (l ++ [x]).length by simp]
        (refine gs ?_)
        refine gw ?_
        rw [hst] at hnx
        refine n_again ⟨(i + 1, some ⟨g', 0, none⟩, ca'), by dsimp only; omega, by dsimp only; omega, ?_, ?_⟩
        · dsimp only; rw [hnx]; exact (by (repeat (first | exact trivial | refine ⟨⟨rfl, rfl⟩, ?_⟩ | refine ⟨⟨rfl, congrArg (SV.int .i64) ei⟩, ?_⟩)))
        · dsimp only; rw [hnx]; exact ⟨_, rfl⟩
  · obtain rfl : i = A.length := by omega
    rw [List.take_length] at hTl ⊢
    have hP : putL (newRc nm a b) A = if (putT (newRc nm a b) A).2 then (putT (newRc nm a b) A).1 else (putT (newRc nm a b) A).1 ++ [newRc nm a b] := rfl
    generalize putT (newRc nm a b) A = T at hP hTl
    obtain ⟨l, bb⟩ := T
    cases bb with
    | true =>
      rw [if_pos rfl] at hP
      rw [hP]
      (refine gs ?_)
      refine gw ?_
      refine n_exit rfl ?_
      (refine gs ?_)
      refine gw ?_
      exact n_ret0 rfl rfl fun ids' w' hp hI' => ⟨(o, cap), rfl, trivial, post_shut hI' rfl [0, 2] (.blk rfl (pre_at hp rfl) rfl rfl (.res rfl .nil)) (by simp)⟩
    | false =>
      rw [if_neg (by simp)] at hP
      rw [hP]
      (refine gs ?_)
      refine gw ?_
      refine n_exit rfl ?_
      (refine gs ?_)
      refine gw ?_
      refine n_build1 rfl rfl elemCtr rfl rfl rfl rfl rfl rfl rfl rfl rfl ?_
      (refine gs ?_)
      refine gw ?_
      refine n_append (nv := Rc.l (newRc nm a b)) 2 rfl rfl elemCtr hit hparts.1 hparts.2.1 hparts.2.2 rfl (by omega) rfl rfl rfl rfl rfl rfl (by omega) (by simp [Value.oneCell']) (by simp at hTl ⊢; omega) (by simp at hTl ⊢; omega) (show (l).flatMap Rc.l ++ Rc.l (newRc nm a b) = (l ++ [(newRc nm a b)]).flatMap Rc.l by simp) fun g' ca' => ?_
      rw [show (l).length + 1 = (l ++ [(newRc nm a b)]).length by simp]
      (refine gs ?_)
      refine gw ?_
      exact n_ret0 rfl rfl fun ids' w' hp hI' => ⟨(some ⟨g', 0, none⟩, ca'), rfl, trivial, post_shut hI' rfl [0, 2] (.blk rfl (pre_at hp rfl) rfl rfl (.res rfl .nil)) (by simp)⟩
end
end Go.Proofs.Ytfcbcgjgkleonaa
