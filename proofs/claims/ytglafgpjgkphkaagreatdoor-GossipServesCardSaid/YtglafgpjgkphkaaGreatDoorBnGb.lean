/- Chapter 12's law without the document's answer: no right is made or lost. Plain. A known block told as cells. Chapter 12's law without the document's answer: GossipConserves. -/
import Derived.Test.YtglafgpjgkphkaaGreatDoorGpD
import Derived.Test.YtglafgpjgkphkaaGreatDoorGath
import Derived.Test.YtglafgpjgkphkaaGreatDoorBnY
import Derived.Test.YtglafgpjgkphkaaGreatDoorBnVe
import Derived.Laws.Cover3
namespace Go.Proofs.YtglafgpjgkphkaaGreatDoor
section
set_option maxRecDepth 100000
set_option linter.unusedSimpArgs false
set_option linter.unusedVariables false
open Go.RowKit

def tot (f : Pc → Int) (X : List Pc) : Int := (X.map f).sum
theorem tot_set {f : Pc → Int} : ∀ {X : List Pc} {i : Nat} {x x' : Pc}, X[i]? = some x → tot f (X.set i x') = tot f X - f x + f x'
  | [], i, x, x', h => by simp at h
  | y :: X, 0, x, x', h => by
    simp at h
    subst h
    simp only [tot, List.set_cons_zero, List.map_cons, List.sum_cons]
    omega
  | y :: X, i + 1, x, x', h => by
    have h' : X[i]? = some x := by simpa using h
    have ih := tot_set (f := f) (x' := x') h'
    simp only [tot, List.set_cons_succ, List.map_cons, List.sum_cons] at ih ⊢
    omega
theorem tot_nonneg {f : Pc → Int} : ∀ {X : List Pc}, (∀ x ∈ X, 0 ≤ f x) → 0 ≤ tot f X
  | [], _ => by simp [tot]
  | y :: X, h => by
    have ih := tot_nonneg (f := f) (X := X) fun x hx => h x (by simp [hx])
    have := h y (by simp)
    simp only [tot, List.map_cons, List.sum_cons] at ih ⊢
    omega
theorem tot_one {f : Pc → Int} : ∀ {X : List Pc} {i : Nat} {x : Pc}, (∀ x ∈ X, 0 ≤ f x) → X[i]? = some x → f x ≤ tot f X
  | [], i, x, _, h => by simp at h
  | y :: X, 0, x, hp, h => by
    simp at h
    subst h
    have := tot_nonneg (f := f) (X := X) fun x hx => hp x (by simp [hx])
    simp only [tot, List.map_cons, List.sum_cons] at this ⊢
    omega
  | y :: X, i + 1, x, hp, h => by
    have ih := tot_one (f := f) (X := X) (i := i) (x := x) (fun x hx => hp x (by simp [hx])) (by simpa using h)
    have := hp y (by simp)
    simp only [tot, List.map_cons, List.sum_cons] at ih ⊢
    omega
theorem tot_two {f : Pc → Int} : ∀ {X : List Pc} {i j : Nat} {x y : Pc}, (∀ x ∈ X, 0 ≤ f x) → X[i]? = some x → X[j]? = some y → i ≠ j → f x + f y ≤ tot f X
  | [], i, j, x, y, _, h, _, _ => by simp at h
  | z :: X, 0, 0, x, y, _, _, _, h => absurd rfl h
  | z :: X, 0, j + 1, x, y, hp, hx, hy, _ => by
    simp at hx
    subst hx
    have := tot_one (f := f) (X := X) (i := j) (x := y) (fun x hx => hp x (by simp [hx])) (by simpa using hy)
    simp only [tot, List.map_cons, List.sum_cons] at this ⊢
    omega
  | z :: X, i + 1, 0, x, y, hp, hx, hy, _ => by
    simp at hy
    subst hy
    have := tot_one (f := f) (X := X) (i := i) (x := x) (fun x hx => hp x (by simp [hx])) (by simpa using hx)
    simp only [tot, List.map_cons, List.sum_cons] at this ⊢
    omega
  | z :: X, i + 1, j + 1, x, y, hp, hx, hy, hne => by
    have ih := tot_two (f := f) (X := X) (i := i) (j := j) (fun x hx => hp x (by simp [hx])) (by simpa using hx) (by simpa using hy) (by omega)
    have := hp z (by simp)
    simp only [tot, List.map_cons, List.sum_cons] at ih ⊢
    omega
abbrev totD (P : Pl) : Int := tot (fun x => x.l.d) P.X
abbrev totU (P : Pl) : Int := tot (fun x => x.l.u) P.X
theorem two_of {P : Pl} {n N : Nat} (h : P.ok n N) (hs : totD P + totU P ≤ 1000) : Two P := by
  have hp : ∀ x ∈ P.X, 0 ≤ x.l.d ∧ 0 ≤ x.l.u := fun x hx => by
    obtain ⟨i, hi⟩ := List.mem_iff_getElem?.1 hx
    have := (h.each i x hi).lo
    exact ⟨this.d0, this.u0⟩
  intro i j x y hx hy hne
  have h1 := tot_two (f := fun x => x.l.d) (fun x hx => (hp x hx).1) hx hy hne
  have h2 := tot_two (f := fun x => x.l.u) (fun x hx => (hp x hx).2) hx hy hne
  have e1 : totD P = tot (fun x => x.l.d) P.X := rfl
  have e2 : totU P = tot (fun x => x.l.u) P.X := rfl
  omega
theorem tot_same {f : Pc → Int} {X Y : List Pc} (hl : X.length = Y.length) (h : ∀ (i : Nat) x y, X[i]? = some x → Y[i]? = some y → f x = f y) : tot f X = tot f Y := by
  unfold tot
  congr 1
  apply List.ext_getElem?
  intro i
  rw [List.getElem?_map, List.getElem?_map]
  cases hx : X[i]? with
  | none =>
    have : Y[i]? = none := by rw [List.getElem?_eq_none_iff] at hx ⊢; omega
    rw [this]
  | some x =>
    have hi := (List.getElem?_eq_some_iff.1 hx).1
    have hy : Y[i]? = some (Y[i]'(by omega)) := List.getElem?_eq_getElem _
    rw [hy]
    simp only [Option.map_some]
    rw [h i x _ hx hy]
/-- Spreading leaves gossips and ledgers. -/
theorem spread_keep {P : Pl} {wi i : Nat} {y : Pc} (hy : (spreadP P wi).X[i]? = some y) : ∃ x, P.X[i]? = some x ∧ y.g = x.g ∧ y.l = x.l := by
  unfold spreadP at hy
  cases hx : P.X[wi]? with
  | none => rw [hx] at hy; exact ⟨y, hy, rfl, rfl⟩
  | some x =>
    rw [hx] at hy
    dsimp only at hy
    rw [spreadL_at] at hy
    have hb : ∀ z, (P.set wi (x.told x.l.d x.l.u)).X[i]? = some z → ∃ x, P.X[i]? = some x ∧ z.g = x.g ∧ z.l = x.l := by
      intro z hz
      rw [List.getElem?_set] at hz
      split at hz
      · rename_i e
        subst e
        simp only [(List.getElem?_eq_some_iff.1 hx).1, if_true] at hz
        cases hz
        exact ⟨x, hx, rfl, rfl⟩
      · exact ⟨z, hz, rfl, rfl⟩
    split at hy
    · cases hz : (P.set wi (x.told x.l.d x.l.u)).X[i]? with
      | none => rw [hz] at hy; cases hy
      | some z =>
        rw [hz] at hy
        cases hy
        exact hb z hz
    · exact hb y hy
theorem spread_len {P : Pl} {wi : Nat} : (spreadP P wi).X.length = P.X.length := by
  unfold spreadP
  split
  · rw [(spreadL_len _).1]; simp
  · rfl
theorem spread_tot {P : Pl} {wi : Nat} : totD (spreadP P wi) = totD P ∧ totU (spreadP P wi) = totU P := by
  constructor
  · refine tot_same spread_len fun i x y hx hy => ?_
    obtain ⟨z, hz, _, h⟩ := spread_keep hx
    rw [hy] at hz; cases hz
    rw [h]
  · refine tot_same spread_len fun i x y hx hy => ?_
    obtain ⟨z, hz, _, h⟩ := spread_keep hx
    rw [hy] at hz; cases hz
    rw [h]
theorem need_ok {x : Pc} {i n N : Nat} (h : x.ok i n N) {d u : Int} (hd : 0 ≤ d ∧ d ≤ 1000) (hu : 0 ≤ u ∧ u ≤ 1000) : (x.need d u).ok i n N ∧ (x.need d u).g.lack nmA = (max (x.g.lack nmA).1 d, max (x.g.lack nmA).2 u) := by
  have e := need_fair x.g (nm := nmA) (d := d) (u := u) ⟨hd.1, hu.1, by omega, by omega⟩ nmA
  rw [if_pos rfl] at e
  have e' : (x.need d u).g.lack nmA = (max (x.g.lack nmA).1 d, max (x.g.lack nmA).2 u) := e
  obtain ⟨⟨k1, k2⟩, k3, k4⟩ := h.lk
  refine ⟨⟨(need_same _ _ _ _).1.trans h.gm, h.lo, h.lim, h.lh, ?_, h.vr, h.me, h.one, h.vers⟩, e'⟩
  rw [e']
  dsimp only
  omega
theorem set_ok {P : Pl} {n N wi : Nat} {x x' : Pc} (h : P.ok n N) (hx : P.X[wi]? = some x) (hx' : x'.ok wi n N) : (P.set wi x').ok n N := by
  refine ⟨by simp [h.len], h.nn, fun i y hy => ?_⟩
  rw [List.getElem?_set] at hy
  split at hy
  · rename_i e
    subst e
    simp only [(List.getElem?_eq_some_iff.1 hx).1, if_true] at hy
    cases hy
    exact hx'
  · exact h.each i y hy
/-- What an asking does to what is lacking. -/
def LackStep (P P' : Pl) (wi : Nat) (asked : Bool) : Prop := ∀ (i : Nat) y, P'.X[i]? = some y → ∃ x, P.X[i]? = some x ∧ (i ≠ wi → y.g.lack nmA = x.g.lack nmA) ∧ (i = wi → (asked = true → y.g.lack nmA = (0, 0) ∧ x.g.lack nmA ≠ (0, 0)) ∧ (asked = false → y.g.lack nmA = (0, 0) ∨ y.g.lack nmA = x.g.lack nmA))
theorem ask_plain {P : Pl} {n N wi : Nat} (hP : P.ok n N) (hs : totD P + totU P ≤ 1000) (hw : wi < n) (hnd : ∀ (i : Nat) x, P.X[i]? = some x → (x.g.m.map (·.1)).Nodup) :
    (askP P n wi).1.ok n N ∧ (askP P n wi).1.o = P.o ∧ totD (askP P n wi).1 = totD P ∧ totU (askP P n wi).1 = totU P ∧ LackStep P (askP P n wi).1 wi (askP P n wi).2 := by
  have hlen := hP.len
  have hn := hP.nn
  have hx : P.X[wi]? = some (P.X[wi]'(by rw [hlen]; exact hw)) := List.getElem?_eq_getElem _
  generalize (P.X[wi]'(by rw [hlen]; exact hw)) = x at hx
  have hxo := hP.each wi x hx
  have lo := hxo.lo
  have d0 := lo.d0
  have u0 := lo.u0
  have lsum := lo.sum
  have llim := hxo.lim
  have llh := hxo.lh
  obtain ⟨⟨k1, k2⟩, k3, k4⟩ := hxo.lk
  have hgm := hxo.gm
  have hsp := tick_spec (hnd wi x hx) (d := x.l.d) (u := x.l.u) (K := rKnownL x.r.All nmA n) ⟨k1, by omega⟩ ⟨k3, by omega⟩ ⟨d0, by omega⟩ ⟨u0, by omega⟩
  have hto := toF_spec x.g.me (max 0 ((x.g.lack nmA).1 - x.l.d)) (max 0 ((x.g.lack nmA).2 - x.l.u)) (rKnownL x.r.All nmA n)
  rw [rK_len] at hto
  have htick : (x.tk n) = x.g.tick nmA x.l.d x.l.u (rKnownL x.r.All nmA n) := rfl
  rw [← htick] at hsp
  have hask := askP_eq (n := n) hx
  rw [hask]
  obtain ⟨hme', hsp⟩ := hsp
  have htm : (x.ticked n).g.me = x.g.me := hme'
  have hlk : (x.ticked n).g.lack nmA = (x.tk n).1.lack nmA := rfl
  have hno : (x.tk n).1.lack nmA = (0, 0) ∨ (x.tk n).1.lack nmA = x.g.lack nmA → (x.ticked n).ok wi n N := fun h => by
    refine ⟨htm.trans hgm, lo, llim, llh, ?_, hxo.vr, hxo.me, hxo.one, hxo.vers⟩
    rw [hlk]
    rcases h with h | h
    · rw [h]; decide
    · rw [h]; exact hxo.lk
  have hno2 : ((x.tk n).1.lack nmA = (0, 0) ∨ (x.tk n).1.lack nmA = x.g.lack nmA) → (P.set wi (x.ticked n)).ok n N ∧ (P.set wi (x.ticked n)).o = P.o ∧ totD (P.set wi (x.ticked n)) = totD P ∧ totU (P.set wi (x.ticked n)) = totU P ∧ LackStep P (P.set wi (x.ticked n)) wi false := fun h => by
    refine ⟨set_ok hP hx (hno h), rfl, ?_, ?_, fun i y hy => ?_⟩
    · have := tot_set (f := fun x => x.l.d) (x' := x.ticked n) hx
      show tot _ (P.X.set wi (x.ticked n)) = _
      rw [this]; show tot (fun x => x.l.d) P.X - x.l.d + x.l.d = tot (fun x => x.l.d) P.X; omega
    · have := tot_set (f := fun x => x.l.u) (x' := x.ticked n) hx
      show tot _ (P.X.set wi (x.ticked n)) = _
      rw [this]; show tot (fun x => x.l.u) P.X - x.l.u + x.l.u = tot (fun x => x.l.u) P.X; omega
    · rw [List.getElem?_set] at hy
      split at hy
      · rename_i e
        subst e
        simp only [(List.getElem?_eq_some_iff.1 hx).1, if_true] at hy
        cases hy
        exact ⟨x, hx, fun h => absurd rfl h, fun _ => ⟨fun h => (by cases h), fun _ => h⟩⟩
      · rename_i e
        exact ⟨y, hy, fun _ => rfl, fun h => absurd h.symm e⟩
  rcases hsp with ⟨_, _, hv, hl⟩ | ⟨_, _, hv, hl⟩ | ⟨hz, hneg, hv, hl⟩
  · rw [hv, if_neg (by simp)]
    exact hno2 (.inl hl)
  · rw [hv, if_neg (by simp)]
    exact hno2 (.inr hl)
  · rcases hto with h | ⟨j, hj1, hj2, hj3⟩
    · exact absurd h hneg
    rw [hv, hj1, if_pos rfl]
    have hjw : j ≠ wi := fun e => hj3 (by rw [e, hgm])
    dsimp only
    rw [Int.toNat_natCast]
    have hy : P.X[j]? = some (P.X[j]'(by rw [hlen]; exact hj2)) := List.getElem?_eq_getElem _
    generalize (P.X[j]'(by rw [hlen]; exact hj2)) = y at hy
    rw [hy]
    dsimp only
    generalize hD : max 0 ((x.g.lack nmA).1 - x.l.d) = D at hz
    generalize hU : max 0 ((x.g.lack nmA).2 - x.l.u) = U at hz
    have hyo := hP.each j y hy
    have ylo := hyo.lo
    have yd0 := ylo.d0
    have yu0 := ylo.u0
    have ysum := ylo.sum
    have ylim := hyo.lim
    have hyh := hyo.lh
    have htwo := two_of hP hs wi j x y hx hy (fun e => hjw e.symm)
    have gd := give_le yd0 D
    have gu := give_le yu0 U
    have hin : x.l.in_ (giveF y.l.d D) (giveF y.l.u U) = ({ x.l with d := x.l.d + giveF y.l.d D, u := x.l.u + giveF y.l.u U }, .ok) := by
      unfold Led.in_
      rw [if_neg (by omega), if_neg (by omega), if_neg (by omega)]
    have hgl : ((x.ticked n).got (giveF y.l.d D) (giveF y.l.u U)).l = { x.l with d := x.l.d + giveF y.l.d D, u := x.l.u + giveF y.l.u U } := congrArg Prod.fst hin
    have hlok : ((x.ticked n).got (giveF y.l.d D) (giveF y.l.u U)).l.ok := by
      have := Led.in_ok lo (giveF y.l.d D) (giveF y.l.u U)
      exact this
    have hx1 : (P.set wi (x.ticked n)).X[wi]? = some (x.ticked n) := List.getElem?_set_self (by rw [hlen]; exact hw)
    have hy1 : (P.set wi (x.ticked n)).X[j]? = some y := by rw [List.getElem?_set_ne (fun e => hjw e.symm)]; exact hy
    have hx2 : ((P.set wi (x.ticked n)).set j (y.gave D U)).X[wi]? = some (x.ticked n) := by rw [List.getElem?_set_ne hjw]; exact hx1
    have hyg : (y.gave D U).ok j n N := ⟨hyo.gm, Led.ok.give ylo D U, hyo.lim, hyo.lh, hyo.lk, hyo.vr, hyo.me, hyo.one, hyo.vers⟩
    have hxg : ((x.ticked n).got (giveF y.l.d D) (giveF y.l.u U)).ok wi n N := by
      refine ⟨htm.trans hgm, hlok, by rw [hgl]; exact llim, by rw [hgl]; exact llh, ?_, hxo.vr, hxo.me, hxo.one, hxo.vers⟩
      have : ((x.ticked n).got (giveF y.l.d D) (giveF y.l.u U)).g.lack nmA = (0, 0) := hlk.trans hl
      rw [this]; decide
    refine ⟨set_ok (set_ok (set_ok hP hx (hno (.inl hl))) hy1 hyg) hx2 hxg, rfl, ?_, ?_, fun i z hz' => ?_⟩
    · show tot _ ((((P.X.set wi (x.ticked n)).set j (y.gave D U))).set wi _) = _
      rw [tot_set hx2, tot_set hy1, tot_set hx, hgl]
      show tot (fun x => x.l.d) P.X - x.l.d + x.l.d - y.l.d + (y.l.d - giveF y.l.d D) - x.l.d + (x.l.d + giveF y.l.d D) = tot (fun x => x.l.d) P.X
      omega
    · show tot _ ((((P.X.set wi (x.ticked n)).set j (y.gave D U))).set wi _) = _
      rw [tot_set hx2, tot_set hy1, tot_set hx, hgl]
      show tot (fun x => x.l.u) P.X - x.l.u + x.l.u - y.l.u + (y.l.u - giveF y.l.u U) - x.l.u + (x.l.u + giveF y.l.u U) = tot (fun x => x.l.u) P.X
      omega
    · rw [List.getElem?_set] at hz'
      split at hz'
      · rename_i e
        subst e
        simp only [(List.getElem?_eq_some_iff.1 hx2).1, if_true] at hz'
        cases hz'
        refine ⟨x, hx, fun h => absurd rfl h, fun _ => ⟨fun _ => ⟨hlk.trans hl, fun h => ?_⟩, fun h => by cases h⟩⟩
        rw [h] at hD hU
        dsimp only at hD hU
        omega
      · rename_i e
        rw [List.getElem?_set] at hz'
        split at hz'
        · rename_i e2
          subst e2
          simp only [(List.getElem?_eq_some_iff.1 hy1).1, if_true] at hz'
          cases hz'
          exact ⟨y, hy, fun _ => rfl, fun h => absurd h.symm e⟩
        · rw [List.getElem?_set_ne e] at hz'
          exact ⟨z, hz', fun _ => rfl, fun h => absurd h.symm e⟩
/-- Who lacks something was told of a need. -/
def Told (P : Pl) (Nd : List Int) : Prop := ∀ (i : Nat) x, P.X[i]? = some x → 0 ≤ Nd.getD i 0 ∧ (x.g.lack nmA ≠ (0, 0) → 1 ≤ Nd.getD i 0)
end
section
set_option linter.unusedVariables false
set_option linter.unusedSimpArgs false
open Go.RowKit

/-- A known block as cells. -/
theorem Inv.asCells {c : Ctx} {w : World} {ids : List Nat} {mem : Mem} (hI : Inv c w ids mem) (j : Nat) {bj : SBlk} {q : Nat} {xs : List Value} (hb : nth mem j = some bj) (hr : resOf bj = none) (hq : ids[j]? = some q) (hd : denL ids bj.cells = some xs) :
    Inv c w ids (setCells mem j [.res (cellsRes q xs bj.ty)]) := by
  have hB : Blk w q xs.toArray bj.ty := hI.at0 j hb hq hd
  rw [setCells_eq hb]
  have hfp : ∀ k, fpOf ids k { bj with cells := [SV.res (cellsRes q xs bj.ty)] } = [q] := fun k => by rw [fpOf_res (r := cellsRes q xs bj.ty) rfl]; rfl
  have hfj : fpOf ids j bj = [q] := fpOf_cells hr hq
  have key : ∀ k b, nth (setNth mem j { bj with cells := [SV.res (cellsRes q xs bj.ty)] }) k = some b → (k = j ∧ b = { bj with cells := [SV.res (cellsRes q xs bj.ty)] }) ∨ (k ≠ j ∧ nth mem k = some b) := by
    intro k b hk
    rw [nth_setNth] at hk
    split at hk
    · rename_i h1
      rw [if_pos (nth_lt hb)] at hk
      exact .inl ⟨h1.symm, by simpa using hk.symm⟩
    · rename_i h1
      exact .inr ⟨fun e => h1 e.symm, hk⟩
  have hfpe : ∀ k b, nth (setNth mem j { bj with cells := [SV.res (cellsRes q xs bj.ty)] }) k = some b → ∃ b0, nth mem k = some b0 ∧ fpOf ids k b = fpOf ids k b0 ∧ b.rw = b0.rw := by
    intro k b hk
    rcases key k b hk with ⟨rfl, rfl⟩ | ⟨_, h⟩
    · exact ⟨bj, hb, by rw [hfp, hfj], rfl⟩
    · exact ⟨b, h, rfl, rfl⟩
  refine ⟨hI.frm, by simp [setNth_len, hI.len], ?_, ?_, ?_⟩
  · intro k b hk
    rcases key k b hk with ⟨rfl, rfl⟩ | ⟨_, h⟩
    · refine ⟨hB, fun x hx => ?_⟩
      have := (hI.good k bj hb).lt x (by rw [hfj]; simpa [cellsRes] using hx)
      exact this
    · exact hI.good k b h
  · intro i k bi bk hi hk hik x hx hxk
    obtain ⟨b1, h1, h2, _⟩ := hfpe i bi hi
    obtain ⟨b2, h3, h4, _⟩ := hfpe k bk hk
    rw [h2] at hx
    rw [h4] at hxk
    exact hI.apart i k b1 b2 h1 h3 hik x hx hxk
  · intro i b hi hrw x hx
    obtain ⟨b1, h1, h2, h3⟩ := hfpe i b hi
    rw [h2] at hx
    exact hI.own i b1 h1 (h3 ▸ hrw) x hx
end
section
set_option maxRecDepth 100000
set_option linter.unusedSimpArgs false
set_option linter.unusedVariables false
set_option maxHeartbeats 16000000
open Go.RowKit

/-- A local block's pointer, told as an address. -/
theorem n_frX {c : Ctx} {Q : SExit → Fr → Mem → List Nat → World → Prop} {ids : List Nat} {fr : Fr} {mem : Mem} {todo : List Task} {body : Code} (k i q : Nat) (hq : ids[i]? = some q) (hh : has fr k = true) (hk : look fr k = .ptr i 0) (h : satN c Q (.loop body ⟨(k, .raw (pV q)) :: fr, mem, todo⟩) ids) : satN c Q (.loop body ⟨fr, mem, todo⟩) ids :=
  satN_iff.2 fun ids' w a hp hI hF => satN_iff.1 h ids' w a hp hI ⟨hF.size, hF.defers, fun t ht => by
    simp only [look, has] at ht ⊢
    cases hb : Nat.beq k t with
    | true =>
      obtain rfl := Nat.eq_of_beq_eq_true hb
      have h1 := hF.at_ k hh
      rw [hk] at h1
      have hq' : ids'[i]? = some q := by
        obtain ⟨r, rfl⟩ := hp
        rw [List.getElem?_append_left (List.getElem?_eq_some_iff.1 hq).1]; exact hq
      simp only [den, hq'] at h1
      exact h1
    | false =>
      simp only [hb] at ht
      exact hF.at_ t ht⟩
/-- A slice that is there is not nil. -/
theorem n_nilSl {c : Ctx} {Q : SExit → Fr → Mem → List Nat → World → Prop} {ids : List Nat} {fr : Fr} {mem : Mem} {todo : List Task} {o : Oper} {t t' e : TypeId} {x y : Operand} {a : Addr} {n cap : Nat} (ho : o.op = .binOp .eql t x y t') (hd : dstOk c o.dst = true) (hu : c.P.underlying t = some (.slice e))
    (hx : ev fr x = some (.raw (.slice (some a) n cap))) (hy : ev fr y = some (.raw (.slice none 0 0))) (hk : satS c Q ⟨putF o.dst (.bool false) fr, mem, todo⟩ ids) : satN c Q (.op o ⟨fr, mem, todo⟩) ids :=
  n_run hd fun ids' w ρ hp hI hρ => by
    have hx' := hρ x _ hx
    have hy' := hρ y _ hy
    simp only [den, Option.some.injEq] at hx' hy'
    refine ⟨_, w, .bool false, mem, ids', ?_, rfl, List.prefix_refl _, hI, satS_mono hp hk⟩
    have heq := run_equal_slice_nil w (P := c.P) t e (some a) n cap hu
    unfold execOp
    simp only [ho, ← hx', ← hy']
    simp [go_sem, eqGuard, binOp, heq]
structure Ty where
  k : Int
  who : Int
  d : Int
  u : Int
abbrev Ty.l (x : Ty) : List Value := [.int .i64 x.k, .int .i64 x.who, .int .i64 x.d, .int .i64 x.u]
abbrev Ty.sv (x : Ty) : List SV := [.int .i64 x.k, .int .i64 x.who, .int .i64 x.d, .int .i64 x.u]
abbrev Ty.val (x : Ty) : Value := .agg #[.int .i64 x.k, .int .i64 x.who, .int .i64 x.d, .int .i64 x.u]
theorem ty_len (x : Ty) : x.l.length = 4 := rfl
structure Ty.good (x : Ty) : Prop where
  k : i64 x.k
  who : i64 x.who
  d : i64 x.d
  u : i64 x.u
theorem aggTy : aggB Tryz.prog 29 = some true := by kernel_rfl
theorem sizeTy : sizeB Tryz.prog 29 = some 4 := by kernel_rfl
abbrev tyRes (o : Option Addr) (S : List Ty) : Res := readRes o (S.flatMap Ty.l)
theorem ty_load {a : Addr} {S : List Ty} {w : World} (h : (tyRes (some a) S).R w) {i : Nat} {x : Ty} (hx : S[i]? = some x) {ad : Addr} (had : ad = a.add (i * 4)) : (loadVar 29 ad).run Tryz.prog w = .ok x.val w :=
  load_row (l := x.l) aggTy sizeTy fun j u hu => rd_at ty_len h hx (j := j) (by have := (List.getElem?_eq_some_iff.1 hu).1; simpa using this) hu (by rw [had, add_add])
/-- What the loop carries. -/
structure Cv (b0 n : Nat) (D U : Int) (o : Option Addr) (cap i : Nat) (P : Pl) (Nd : List Int) : Prop where
  ok : P.ok n (2 * i)
  po : P.o = o
  pc : P.cap = cap
  td : totD P = D
  tu : totU P = U
  told : Told P Nd
  nl : Nd.length = 8
  nb : ∀ v ∈ Nd, -(i : Int) ≤ v ∧ v ≤ i
  fp : ∀ y ∈ (plRes P).fp, b0 ≤ y
theorem begun_cv {b0 n : Nat} {P : Pl} {d u : Int} (h : Begun P n d u) (hn : 2 ≤ n ∧ n ≤ 8) (hd : 0 ≤ d) (hu : 0 ≤ u) (hdu : d + u ≤ 1000) (hf : ∀ y ∈ (plRes P).fp, b0 ≤ y) : Cv b0 n d u P.o P.cap 0 P (List.replicate 8 0) := by
  obtain ⟨hl, hg, hX⟩ := h
  have hok : P.ok n 0 := ⟨hl, hn, fun i x hx => by
    obtain ⟨p, mg, b, v, mv, nv, rfl⟩ := hX i x hx
    have hi : i < n := by rw [← hl]; exact (List.getElem?_eq_some_iff.1 hx).1
    have h0 := newPc_ok hi p mg b v mv nv
    refine ⟨h0.gm, ?_, ?_, ?_, h0.lk, h0.vr, h0.me, h0.one, h0.vers⟩
    · dsimp only
      split
      · exact ⟨hd, hu, Int.le_refl _, by dsimp only; omega, by dsimp only; omega, by dsimp only; omega⟩
      · exact ⟨by decide, by decide, by decide, by decide, by decide, by decide⟩
    · dsimp only; split <;> rfl
    · dsimp only; split <;> rfl⟩
  have htot : ∀ (f : Led → Int), f ⟨0, 0, 0, 1000, 0⟩ = 0 → tot (fun x => f x.l) P.X = f ⟨d, u, 0, 1000, 0⟩ := by
    intro f hf0
    have key : ∀ (X : List Pc), (∀ (i : Nat) x, X[i]? = some x → x.l = ⟨0, 0, 0, 1000, 0⟩) → tot (fun x => f x.l) X = 0 := by
      intro X
      induction X with
      | nil => intro _; rfl
      | cons a X ih =>
        intro hh
        have h1 := hh 0 a rfl
        have h2 := ih fun i x hx => hh (i + 1) x (by simpa using hx)
        simp only [tot, List.map_cons, List.sum_cons] at h2 ⊢
        rw [h2, h1, hf0]; rfl
    obtain ⟨o, cap, X⟩ := P
    dsimp only at hl hX ⊢
    cases X with
    | nil => simp at hl; omega
    | cons a X =>
      obtain ⟨p, mg, b, v, mv, nv, e⟩ := hX 0 a rfl
      have h2 := key X fun i x hx => by
        obtain ⟨p, mg, b, v, mv, nv, rfl⟩ := hX (i + 1) x (by simpa using hx)
        simp
      simp only [tot, List.map_cons, List.sum_cons] at h2 ⊢
      rw [h2, e]
      simp
  refine ⟨hok, rfl, rfl, htot (fun l => l.d) rfl, htot (fun l => l.u) rfl, fun i x hx => ?_, rfl, fun v hv => ?_, hf⟩
  · obtain ⟨p, mg, b, v, mv, nv, rfl⟩ := hX i x hx
    have h8 : i < 8 := by
      have := (List.getElem?_eq_some_iff.1 hx).1
      omega
    have : (List.replicate 8 (0 : Int)).getD i 0 = 0 := by
      rw [List.getD_eq_getElem?_getD, List.getElem?_replicate]
      simp [h8]
    rw [this]
    exact ⟨Int.le_refl _, fun h => absurd rfl h⟩
  · obtain rfl : v = 0 := by simpa using List.eq_of_mem_replicate hv
    simp
theorem pl_nd {P : Pl} {w : World} (hR : (plRes P).R w) : ∀ (i : Nat) x, P.X[i]? = some x → (x.g.m.map (·.1)).Nodup := fun i x hx => (pl_rg hR hx).2.1.nodup
theorem cv_need {b0 n i wi : Nat} {D U : Int} {o : Option Addr} {cap : Nat} {P : Pl} {Nd : List Int} (h : Cv b0 n D U o cap i P Nd) {x : Pc} (hx : P.X[wi]? = some x) {d u : Int} (hd : 0 ≤ d ∧ d ≤ 1000) (hu : 0 ≤ u ∧ u ≤ 1000) (hf : ∀ y ∈ (plRes (P.set wi (x.need d u))).fp, b0 ≤ y) :
    Cv b0 n D U o cap (i + 1) (P.set wi (x.need d u)) (Nd.set wi (Nd.getD wi 0 + 1)) := by
  have hxo := h.ok.each wi x hx
  obtain ⟨n1, n2⟩ := need_ok hxo hd hu
  have hwn : wi < 8 := by
    have := (List.getElem?_eq_some_iff.1 hx).1
    have h1 := h.ok.len
    have h2 := h.ok.nn
    omega
  have hwl : wi < Nd.length := by rw [h.nl]; exact hwn
  have hk := set_ok h.ok hx n1
  refine ⟨⟨hk.len, hk.nn, fun j y hy => (hk.each j y hy).mono (by omega)⟩, h.po, h.pc, ?_, ?_, fun j y hy => ?_, by simp [h.nl], fun v hv => ?_, hf⟩
  · show tot _ (P.X.set wi (x.need d u)) = _
    rw [tot_set hx, ← h.td]
    show tot (fun x => x.l.d) P.X - x.l.d + x.l.d = tot (fun x => x.l.d) P.X
    omega
  · show tot _ (P.X.set wi (x.need d u)) = _
    rw [tot_set hx, ← h.tu]
    show tot (fun x => x.l.u) P.X - x.l.u + x.l.u = tot (fun x => x.l.u) P.X
    omega
  · rw [List.getD_eq_getElem?_getD, List.getElem?_set]
    rw [List.getElem?_set] at hy
    split at hy
    · rename_i e
      subst e
      rw [if_pos rfl, if_pos hwl]
      have := h.told wi x hx
      simp only [Option.getD_some]
      omega
    · rename_i e
      rw [if_neg e, ← List.getD_eq_getElem?_getD]
      exact h.told j y hy
  · rcases List.mem_or_eq_of_mem_set hv with hv | rfl
    · have := h.nb v hv; omega
    · have := h.nb (Nd.getD wi 0) (by rw [List.getD_eq_getElem?_getD, List.getElem?_eq_getElem hwl]; exact List.getElem_mem _)
      omega
theorem cv_ask {b0 n i wi : Nat} {D U : Int} {o : Option Addr} {cap : Nat} {P : Pl} {Nd : List Int} (h : Cv b0 n D U o cap i P Nd) (hw : wi < n) (hDU : D + U ≤ 1000) (hcap : (askP P n wi).1.cap = cap) (hnd : ∀ (i : Nat) x, P.X[i]? = some x → (x.g.m.map (·.1)).Nodup) (hf : ∀ y ∈ (plRes (askP P n wi).1).fp, b0 ≤ y) :
    Cv b0 n D U o cap (i + 1) (askP P n wi).1 (if (askP P n wi).2 = true then Nd.set wi (Nd.getD wi 0 - 1) else Nd) := by
  obtain ⟨p1, p2, p3, p4, p5⟩ := ask_plain h.ok (by rw [h.td, h.tu]; exact hDU) hw hnd
  have hn := h.ok.nn
  have hwl : wi < Nd.length := by rw [h.nl]; omega
  refine ⟨⟨p1.len, p1.nn, fun j y hy => (p1.each j y hy).mono (by omega)⟩, p2.trans h.po, hcap, p3.trans h.td, p4.trans h.tu, fun j y hy => ?_, by split <;> simp [h.nl], fun v hv => ?_, hf⟩
  · obtain ⟨x, hx, q1, q2⟩ := p5 j y hy
    have ht := h.told j x hx
    by_cases e : j = wi
    · obtain ⟨q3, q4⟩ := q2 e
      subst e
      by_cases ha : (askP P n j).2 = true
      · obtain ⟨q5, q6⟩ := q3 ha
        rw [if_pos ha, List.getD_eq_getElem?_getD, List.getElem?_set_self hwl]
        simp only [Option.getD_some]
        have := ht.2 q6
        exact ⟨by omega, fun h => absurd q5 h⟩
      · rw [if_neg ha]
        refine ⟨ht.1, fun hl => ?_⟩
        rcases q4 (by simpa using ha) with h1 | h1
        · exact absurd h1 hl
        · exact ht.2 (h1 ▸ hl)
    · have hg : (if (askP P n wi).2 = true then Nd.set wi (Nd.getD wi 0 - 1) else Nd).getD j 0 = Nd.getD j 0 := by
        split
        · rw [List.getD_eq_getElem?_getD, List.getElem?_set_ne (fun h => e h.symm), ← List.getD_eq_getElem?_getD]
        · rfl
      rw [hg, q1 e]
      exact ht
  · split at hv
    · rcases List.mem_or_eq_of_mem_set hv with hv | rfl
      · have := h.nb v hv; omega
      · have := h.nb (Nd.getD wi 0) (by rw [List.getD_eq_getElem?_getD, List.getElem?_eq_getElem hwl]; exact List.getElem_mem _)
        omega
    · have := h.nb v hv; omega
theorem cv_spread {b0 n i wi : Nat} {D U : Int} {o : Option Addr} {cap : Nat} {P : Pl} {Nd : List Int} (h : Cv b0 n D U o cap i P Nd) (hi : i ≤ 1000) (hw : wi < n) (hcap : (spreadP P wi).cap = cap) (hf : ∀ y ∈ (plRes (spreadP P wi)).fp, b0 ≤ y) :
    Cv b0 n D U o cap (i + 1) (spreadP P wi) Nd := by
  obtain ⟨s1, s2⟩ := spread_ok' h.ok (by omega) hw
  obtain ⟨t1, t2⟩ := spread_tot (P := P) (wi := wi)
  refine ⟨⟨s1.len, s1.nn, fun j y hy => (s1.each j y hy).mono (by omega)⟩, s2.trans h.po, hcap, t1.trans h.td, t2.trans h.tu, fun j y hy => ?_, h.nl, fun v hv => by have := h.nb v hv; omega, hf⟩
  obtain ⟨x, hx, e1, _⟩ := spread_keep hy
  rw [e1]
  exact h.told j x hx
theorem ask_cap {P : Pl} {n wi : Nat} : (askP P n wi).1.cap = P.cap := by
  unfold askP
  split
  · split
    · split <;> rfl
    · rfl
  · rfl
theorem spread_cap {P : Pl} {wi : Nat} : (spreadP P wi).cap = P.cap := by
  unfold spreadP
  split
  · exact (spreadL_len _).2.2
  · rfl
/-- The sums as far as the first k. -/
def totT (f : Pc → Int) (X : List Pc) (k : Nat) : Int := tot f (X.take k)
theorem totT_next {f : Pc → Int} {X : List Pc} {k : Nat} {x : Pc} (hx : X[k]? = some x) : totT f X (k + 1) = totT f X k + f x := by
  unfold totT tot
  rw [List.take_add_one, hx]
  simp
theorem totT_all {f : Pc → Int} {X : List Pc} : totT f X X.length = tot f X := by unfold totT; rw [List.take_length]
theorem totT_bound {f : Pc → Int} {X : List Pc} (hp : ∀ x ∈ X, 0 ≤ f x ∧ f x ≤ 1000) (k : Nat) : 0 ≤ totT f X k ∧ totT f X k ≤ 1000 * (k : Int) := by
  induction k with
  | zero => simp [totT, tot]
  | succ k ih =>
    cases hx : X[k]? with
    | none =>
      have : totT f X (k + 1) = totT f X k := by
        unfold totT
        rw [List.take_add_one, hx]; simp
      rw [this]; omega
    | some x =>
      have := hp x (List.mem_of_getElem? hx)
      rw [totT_next hx]; omega
end
end Go.Proofs.YtglafgpjgkphkaaGreatDoor
