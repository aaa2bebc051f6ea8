/- Chapter 12's law without the document's answer: what one other has comes, half by half. Plain. Chapter 12's law without the document's answer: GossipServes walked. -/
import Derived.Test.YtglafgpjgkphkaaGreatDoorBnGb
namespace Go.Proofs.YtglafgpjgkphkaaGreatDoor
section
set_option maxRecDepth 100000
set_option linter.unusedSimpArgs false
set_option linter.unusedVariables false
open Go.RowKit

/-- The first has b, the replica w has a and is to have need; the first alone has told. -/
structure Srv (P : Pl) (n N w : Nat) (need a b : Int) : Prop where
  ok : P.ok n N
  w0 : 0 < w ∧ w < n
  x0 : ∀ x, P.X[0]? = some x → x.l.d = b ∧ x.l.u = 0
  xw : ∀ x, P.X[w]? = some x → x.l.d = a ∧ x.l.u = 0 ∧ (x.g.lack nmA = (0, 0) ∨ x.g.lack nmA = (need, 0))
  oth : ∀ (i : Nat) x, P.X[i]? = some x → i ≠ 0 → i ≠ w → x.l.d = 0 ∧ x.l.u = 0
  src : ∀ (i : Nat) x, P.X[i]? = some x → ∀ e ∈ x.r.All, e.1 = 0
  eqv : ∀ (i : Nat) x y, P.X[i]? = some x → P.X[0]? = some y → lastF x.r.All 0 nmA = lastF y.r.All 0 nmA
  ab : 0 ≤ a ∧ 0 ≤ b ∧ a + b ≤ 900 ∧ a ≤ need ∧ 1 ≤ need ∧ need ≤ 1000
theorem Srv.at_ {P : Pl} {n N w : Nat} {need a b : Int} (h : Srv P n N w need a b) (i : Nat) (hi : i < n) : ∃ x, P.X[i]? = some x := ⟨P.X[i]'(by rw [h.ok.len]; exact hi), List.getElem?_eq_getElem _⟩
theorem Srv.two {P : Pl} {n N w : Nat} {need a b : Int} (h : Srv P n N w need a b) : Two P := by
  intro i j x y hx hy hne
  have hab := h.ab
  have key : ∀ (i : Nat) x, P.X[i]? = some x → x.l.u = 0 ∧ ((i = 0 ∧ x.l.d = b) ∨ (i = w ∧ x.l.d = a) ∨ x.l.d = 0) := by
    intro i x hx
    by_cases e0 : i = 0
    · subst e0; exact ⟨(h.x0 x hx).2, .inl ⟨rfl, (h.x0 x hx).1⟩⟩
    · by_cases ew : i = w
      · subst ew; exact ⟨(h.xw x hx).2.1, .inr (.inl ⟨rfl, (h.xw x hx).1⟩)⟩
      · exact ⟨(h.oth i x hx e0 ew).2, .inr (.inr (h.oth i x hx e0 ew).1)⟩
  obtain ⟨h1, h2⟩ := key i x hx
  obtain ⟨h3, h4⟩ := key j y hy
  have hw := h.w0
  rcases h2 with ⟨e1, h2⟩ | ⟨e1, h2⟩ | h2 <;> rcases h4 with ⟨e2, h4⟩ | ⟨e2, h4⟩ | h4 <;> omega
theorem lastF_none' {A : List (Int × Vw)} {k : Int} {nm : ByteArray} (h : ∀ e ∈ A, e.1 ≠ k) : lastF A k nm = Vw.zero := by
  rcases lastF_spec A k nm with ⟨h1, _⟩ | ⟨h1, _⟩
  · exact h1
  · exact absurd rfl (h _ h1)
/-- The first tells what it has: all know it. -/
theorem srv_spread {P : Pl} {n N w : Nat} {need a b : Int} (h : Srv P n N w need a b) (hN : N ≤ 10000) : Srv (spreadP P 0) n (N + 2) w need a b ∧ ∀ (i : Nat) x, (spreadP P 0).X[i]? = some x → (lastF x.r.All 0 nmA).d = b ∧ (lastF x.r.All 0 nmA).u = 0 := by
  have hn := h.ok.nn
  obtain ⟨x, hx⟩ := h.at_ 0 (by omega)
  have hxo := h.ok.each 0 x hx
  have lo := hxo.lo
  have llim := hxo.lim
  have llh := hxo.lh
  have lsum := lo.sum
  obtain ⟨t1, t2, t3, t4, t5, t6, t7, t8, t9, t10⟩ := tell_one hxo.one (by omega) hxo.vers lo.d0 lo.u0 (by omega)
  have hme := hxo.me
  have hme0 : x.r.me = 0 := hme
  rw [hme0] at t6 t7 t8 t9 t10
  obtain ⟨u1, u2, u3, u4, u5, u6, u7, u8⟩ := told_ok' hxo hN
  obtain ⟨hx0d, hx0u⟩ := h.x0 x hx
  have hV : lastF (x.told x.l.d x.l.u).r.All ((0 : Nat) : Int) nmA = lastF (x.r.tell (vwK x.l.d x.l.u)).1.All 0 nmA := rfl
  have hxX : P.X[0]? = some x := hx
  have hspr : spreadP P 0 = spreadL (P.set 0 (x.told x.l.d x.l.u)) 0 [lastF (x.told x.l.d x.l.u).r.All ((0 : Nat) : Int) nmA] P.X.length := by unfold spreadP; rw [hx]
  have hsrc0 : ∀ e ∈ (x.told x.l.d x.l.u).r.All, e.1 = 0 := fun e he => by
    have he' : e ∈ (x.r.tell (vwK x.l.d x.l.u)).1.All := he
    rcases t10 with h1 | ⟨v, _, h1, _⟩
    · rw [h1] at he'; exact h.src 0 x hx e he'
    · rw [h1] at he'
      rcases List.mem_append.1 he' with he' | he'
      · exact h.src 0 x hx e he'
      · rw [List.mem_singleton] at he'; subst he'; rfl
  -- each member behind the spreading
  have key : ∀ (i : Nat) z, (spreadP P 0).X[i]? = some z → (∀ e ∈ z.r.All, e.1 = 0) ∧ lastF z.r.All 0 nmA = lastF (x.r.tell (vwK x.l.d x.l.u)).1.All 0 nmA := by
    intro i z hz
    rw [hspr, spreadL_at] at hz
    by_cases e0 : i = 0
    · subst e0
      rw [if_neg (by omega)] at hz
      rw [List.getElem?_set_self (List.getElem?_eq_some_iff.1 hx).1] at hz
      cases hz
      exact ⟨hsrc0, rfl⟩
    · have hne : (P.set 0 (x.told x.l.d x.l.u)).X[i]? = P.X[i]? := List.getElem?_set_ne (fun e => e0 e.symm)
      rw [hne] at hz
      cases hy : P.X[i]? with
      | none => rw [hy] at hz; split at hz <;> cases hz
      | some y =>
        have hi : i < P.X.length := (List.getElem?_eq_some_iff.1 hy).1
        rw [hy, if_pos ⟨hi, e0⟩] at hz
        simp only [Option.map_some, Option.some.injEq] at hz
        have hyo := h.ok.each i y hy
        have hin : i < n := by rw [← h.ok.len]; exact hi
        have hyme := hyo.me
        have hyn := hyo.vr.rn
        obtain ⟨v1, v2, v3, v4⟩ := take_one hyo.one (k := ((0 : Nat) : Int)) ⟨by omega, by omega, by omega⟩ u4 u5
        have hz' : z.r.All = (y.r.take ((0 : Nat) : Int) [lastF (x.told x.l.d x.l.u).r.All ((0 : Nat) : Int) nmA]).1.All := by rw [← hz]; rfl
        rw [hz', v4]
        have heq : lastF y.r.All 0 nmA = lastF x.r.All 0 nmA := h.eqv i y x hy hx
        have heq' : lastF y.r.All ((0 : Nat) : Int) nmA = lastF x.r.All 0 nmA := heq
        refine ⟨fun e he => ?_, ?_⟩
        · split at he
          · rcases List.mem_append.1 he with he | he
            · exact h.src i y hy e he
            · rw [List.mem_singleton] at he; subst he; rfl
          · exact h.src i y hy e he
        · rw [heq', hV]
          rcases t10 with h1 | ⟨v, hvn, h1, h2⟩
          · rw [h1, if_neg (by omega)]; exact heq
          · have hl : lastF (x.r.tell (vwK x.l.d x.l.u)).1.All 0 nmA = v := by
              rw [h1, lastF_app]
              unfold lastStep
              rw [if_pos ⟨rfl, hvn⟩]
            rw [hl, if_pos (by omega), lastF_app]
            unfold lastStep
            rw [if_pos ⟨rfl, hvn⟩]
  obtain ⟨s1, s2⟩ := spread_ok' h.ok hN (wi := 0) (by omega)
  refine ⟨⟨s1, h.w0, fun z hz => ?_, fun z hz => ?_, fun i z hz h1 h2 => ?_, fun i z hz => (key i z hz).1, fun i z y hz hy => (key i z hz).2.trans (key 0 y hy).2.symm, h.ab⟩, fun i z hz => ?_⟩
  · obtain ⟨y, hy, _, e⟩ := spread_keep hz
    rw [e]; exact h.x0 y hy
  · obtain ⟨y, hy, e1, e⟩ := spread_keep hz
    rw [e, e1]; exact h.xw y hy
  · obtain ⟨y, hy, _, e⟩ := spread_keep hz
    rw [e]; exact h.oth i y hy h1 h2
  · rw [(key i z hz).2, t6, t7]
    exact ⟨hx0d, hx0u⟩
/-- The replica w is told of its need. -/
theorem srv_need {P : Pl} {n N w : Nat} {need a b : Int} (h : Srv P n N w need a b) {x : Pc} (hx : P.X[w]? = some x) : Srv (P.set w (x.need need 0)) n N w need a b ∧ (x.need need 0).g.lack nmA = (need, 0) := by
  have hab := h.ab
  have hw := h.w0
  obtain ⟨n1, n2⟩ := need_ok (h.ok.each w x hx) (d := need) (u := 0) ⟨by omega, by omega⟩ ⟨by omega, by omega⟩
  have hl : (x.need need 0).g.lack nmA = (need, 0) := by
    rw [n2]
    rcases (h.xw x hx).2.2 with h1 | h1
    · rw [h1]
      dsimp only
      rw [show max 0 need = need by omega]; rfl
    · rw [h1]
      dsimp only
      rw [show max need need = need by omega]; rfl
  have get : ∀ {i : Nat} {z : Pc}, (P.set w (x.need need 0)).X[i]? = some z → (i = w ∧ z = x.need need 0) ∨ (i ≠ w ∧ P.X[i]? = some z) := by
    intro i z hz
    rw [List.getElem?_set] at hz
    split at hz
    · rename_i e
      subst e
      simp only [(List.getElem?_eq_some_iff.1 hx).1, if_true] at hz
      cases hz
      exact .inl ⟨rfl, rfl⟩
    · rename_i e
      exact .inr ⟨fun h => e h.symm, hz⟩
  have same : ∀ {i : Nat} {z : Pc}, (P.set w (x.need need 0)).X[i]? = some z → ∃ y, P.X[i]? = some y ∧ z.l = y.l ∧ z.r = y.r := by
    intro i z hz
    rcases get hz with ⟨rfl, rfl⟩ | ⟨_, hz⟩
    · exact ⟨x, hx, rfl, rfl⟩
    · exact ⟨z, hz, rfl, rfl⟩
  refine ⟨⟨set_ok h.ok hx n1, hw, fun z hz => ?_, fun z hz => ?_, fun i z hz h1 h2 => ?_, fun i z hz => ?_, fun i z y hz hy => ?_, hab⟩, hl⟩
  · obtain ⟨y, hy, e, _⟩ := same hz
    rw [e]; exact h.x0 y hy
  · rcases get hz with ⟨_, rfl⟩ | ⟨h1, _⟩
    · have := h.xw x hx
      exact ⟨this.1, this.2.1, .inr hl⟩
    · exact absurd rfl h1
  · obtain ⟨y, hy, e, _⟩ := same hz
    rw [e]; exact h.oth i y hy h1 h2
  · obtain ⟨y, hy, _, e⟩ := same hz
    rw [e]; exact h.src i y hy
  · obtain ⟨z1, hz1, _, e1⟩ := same hz
    obtain ⟨y1, hy1, _, e2⟩ := same hy
    rw [e1, e2]; exact h.eqv i z1 y1 hz1 hy1
/-- It asks, and the first gives. -/
theorem srv_ask {P : Pl} {n N w : Nat} {need a b : Int} (h : Srv P n N w need a b) {x : Pc} (hx : P.X[w]? = some x) (hl : x.g.lack nmA = (need, 0)) (hk : (lastF x.r.All 0 nmA).d = b ∧ (lastF x.r.All 0 nmA).u = 0) (hnd : (x.g.m.map (·.1)).Nodup) :
    (askP P n w).2 = decide (a < need ∧ 0 < b) ∧ Srv (askP P n w).1 n N w need (if a < need ∧ 0 < b then a + giveF b (need - a) else a) (if a < need ∧ 0 < b then b - giveF b (need - a) else b) := by
  have hab := h.ab
  have hw := h.w0
  have hlen := h.ok.len
  have hxo := h.ok.each w x hx
  obtain ⟨hxd, hxu, _⟩ := h.xw x hx
  have hgm := hxo.gm
  have hsp := tick_spec hnd (d := x.l.d) (u := x.l.u) (K := rKnownL x.r.All nmA n) (by rw [hl]; dsimp only; omega) (by rw [hl]; dsimp only; omega) (by omega) (by omega)
  have htick : (x.tk n) = x.g.tick nmA x.l.d x.l.u (rKnownL x.r.All nmA n) := rfl
  rw [← htick, hl, hxd, hxu] at hsp
  dsimp only at hsp
  rw [show max 0 ((0 : Int) - 0) = 0 by omega] at hsp
  have hask := askP_eq (n := n) hx
  rw [hask]
  -- what is known
  have hK : ∀ i : Nat, ((rKnownL x.r.All nmA n).map (kindF true)).getD i 0 = if i = 0 then b else 0 := by
    intro i
    rw [List.getD_eq_getElem?_getD, List.getElem?_map]
    unfold rKnownL
    rw [List.getElem?_map]
    by_cases hi : i < n
    · rw [List.getElem?_range hi]
      simp only [Option.map_some, Option.getD_some]
      unfold rKnownF
      by_cases e : i = 0
      · subst e; rw [if_pos rfl]; exact hk.1
      · rw [if_neg e, lastF_none' fun e' he' h2 => by have := h.src w x hx e' he'; omega]; rfl
    · rw [List.getElem?_eq_none (by simpa using hi), if_neg (by omega)]; rfl
  have hKl : ((rKnownL x.r.All nmA n).map (kindF true)).length = n := by rw [List.length_map, rK_len]
  obtain ⟨hme', hsp⟩ := hsp
  have htm : (x.ticked n).g.me = x.g.me := hme'
  have hlk : (x.ticked n).g.lack nmA = (x.tk n).1.lack nmA := rfl
  have hto : 0 < max 0 (need - a) → toF x.g.me (max 0 (need - a)) 0 (rKnownL x.r.All nmA n) = if 0 < b then 0 else -1 := by
    intro hp
    unfold toF
    rw [if_pos hp, if_neg (by omega), hgm]
    by_cases hb : 0 < b
    · rw [if_pos hb]
      exact askF_first hw.1 (by rw [hKl]; exact hw.2) (by rw [hK, if_pos rfl]; exact hb) fun i hi => by rw [hK, if_neg hi]
    · rw [if_neg hb]
      exact askF_none fun i => by rw [hK]; split <;> omega
  have hno : (x.tk n).1.lack nmA = (0, 0) ∨ (x.tk n).1.lack nmA = (need, 0) → Srv (P.set w (x.ticked n)) n N w need a b := fun hh => by
    have tok : (x.ticked n).ok w n N := by
      refine ⟨htm.trans hgm, hxo.lo, hxo.lim, hxo.lh, ?_, hxo.vr, hxo.me, hxo.one, hxo.vers⟩
      rw [hlk]
      rcases hh with h1 | h1
      · rw [h1]; decide
      · rw [h1]; dsimp only; omega
    have get : ∀ {i : Nat} {z : Pc}, (P.set w (x.ticked n)).X[i]? = some z → (i = w ∧ z = x.ticked n) ∨ (i ≠ w ∧ P.X[i]? = some z) := by
      intro i z hz
      rw [List.getElem?_set] at hz
      split at hz
      · rename_i e
        subst e
        simp only [(List.getElem?_eq_some_iff.1 hx).1, if_true] at hz
        cases hz
        exact .inl ⟨rfl, rfl⟩
      · rename_i e
        exact .inr ⟨fun h => e h.symm, hz⟩
    have same : ∀ {i : Nat} {z : Pc}, (P.set w (x.ticked n)).X[i]? = some z → ∃ y, P.X[i]? = some y ∧ z.l = y.l ∧ z.r = y.r := by
      intro i z hz
      rcases get hz with ⟨rfl, rfl⟩ | ⟨_, hz⟩
      · exact ⟨x, hx, rfl, rfl⟩
      · exact ⟨z, hz, rfl, rfl⟩
    refine ⟨set_ok h.ok hx tok, hw, fun z hz => ?_, fun z hz => ?_, fun i z hz h1 h2 => ?_, fun i z hz => ?_, fun i z y hz hy => ?_, hab⟩
    · obtain ⟨y, hy, e, _⟩ := same hz
      rw [e]; exact h.x0 y hy
    · rcases get hz with ⟨_, rfl⟩ | ⟨h1, _⟩
      · exact ⟨hxd, hxu, hh⟩
      · exact absurd rfl h1
    · obtain ⟨y, hy, e, _⟩ := same hz
      rw [e]; exact h.oth i y hy h1 h2
    · obtain ⟨y, hy, _, e⟩ := same hz
      rw [e]; exact h.src i y hy
    · obtain ⟨z1, hz1, _, e1⟩ := same hz
      obtain ⟨y1, hy1, _, e2⟩ := same hy
      rw [e1, e2]; exact h.eqv i z1 y1 hz1 hy1
  rcases hsp with ⟨h1, _, hv, hl0⟩ | ⟨h1, h2, hv, hl0⟩ | ⟨h1, h2, hv, hl0⟩
  · rw [hv, if_neg (by simp), if_neg (by omega), if_neg (by omega)]
    exact ⟨by rw [decide_eq_false (by omega)], hno (.inl hl0)⟩
  · have hp : 0 < max 0 (need - a) := by omega
    rw [hto hp] at h2
    have hb : ¬ 0 < b := fun hb => by rw [if_pos hb] at h2; omega
    rw [hv, if_neg (by simp), if_neg (by omega), if_neg (by omega)]
    exact ⟨by rw [decide_eq_false (by omega)], hno (.inr hl0)⟩
  · have hp : 0 < max 0 (need - a) := by omega
    rw [hto hp] at h2 hv
    have hb : 0 < b := by
      by_cases hb : 0 < b
      · exact hb
      · rw [if_neg hb] at h2; omega
    rw [if_pos hb] at hv
    have hD : max 0 (need - a) = need - a := by omega
    rw [hD] at hv
    obtain ⟨y, hy⟩ := h.at_ 0 (by omega)
    obtain ⟨hyd, hyu⟩ := h.x0 y hy
    have hyo := h.ok.each 0 y hy
    rw [hv, if_pos rfl]
    have hy' : P.X[(0 : Int).toNat]? = some y := hy
    dsimp only
    rw [hy', if_pos ⟨by omega, hb⟩, if_pos ⟨by omega, hb⟩]
    dsimp only
    rw [hyd, hyu]
    have hg0 : giveF 0 0 = 0 := by decide
    rw [hg0]
    have gd := give_le (show 0 ≤ b by omega) (need - a)
    obtain ⟨ga, gb, gc⟩ := give_half (show 0 ≤ b by omega) (need - a)
    have lo := hxo.lo
    have llim := hxo.lim
    have llh := hxo.lh
    have hin : x.l.in_ (giveF b (need - a)) 0 = ({ x.l with d := x.l.d + giveF b (need - a), u := x.l.u + 0 }, .ok) := by
      unfold Led.in_
      rw [if_neg (by omega), if_neg (by omega), if_neg (by omega)]
    have hgl : ((x.ticked n).got (giveF b (need - a)) 0).l = { x.l with d := x.l.d + giveF b (need - a), u := x.l.u + 0 } := congrArg Prod.fst hin
    have hx1 : (P.set w (x.ticked n)).X[w]? = some (x.ticked n) := List.getElem?_set_self (by rw [hlen]; exact hw.2)
    have hy1 : (P.set w (x.ticked n)).X[0]? = some y := by rw [List.getElem?_set_ne (by omega)]; exact hy
    have hx2 : ((P.set w (x.ticked n)).set 0 (y.gave (need - a) 0)).X[w]? = some (x.ticked n) := by rw [List.getElem?_set_ne (by omega)]; exact hx1
    have hyg : (y.gave (need - a) 0).ok 0 n N := ⟨hyo.gm, Led.ok.give hyo.lo _ _, hyo.lim, hyo.lh, hyo.lk, hyo.vr, hyo.me, hyo.one, hyo.vers⟩
    have tok : (x.ticked n).ok w n N := ⟨htm.trans hgm, hxo.lo, hxo.lim, hxo.lh, by rw [hlk, hl0]; decide, hxo.vr, hxo.me, hxo.one, hxo.vers⟩
    have hxg : ((x.ticked n).got (giveF b (need - a)) 0).ok w n N := by
      refine ⟨htm.trans hgm, Led.in_ok lo _ _, by rw [hgl]; exact llim, by rw [hgl]; exact llh, ?_, hxo.vr, hxo.me, hxo.one, hxo.vers⟩
      have : ((x.ticked n).got (giveF b (need - a)) 0).g.lack nmA = (0, 0) := hlk.trans hl0
      rw [this]; decide
    have get : ∀ {i : Nat} {z : Pc}, (((P.set w (x.ticked n)).set 0 (y.gave (need - a) 0)).set w ((x.ticked n).got (giveF b (need - a)) 0)).X[i]? = some z → (i = w ∧ z = (x.ticked n).got (giveF b (need - a)) 0) ∨ (i = 0 ∧ z = y.gave (need - a) 0) ∨ (i ≠ w ∧ i ≠ 0 ∧ P.X[i]? = some z) := by
      intro i z hz
      rw [List.getElem?_set] at hz
      split at hz
      · rename_i e
        subst e
        simp only [(List.getElem?_eq_some_iff.1 hx2).1, if_true] at hz
        cases hz
        exact .inl ⟨rfl, rfl⟩
      · rename_i e
        rw [List.getElem?_set] at hz
        split at hz
        · rename_i e2
          subst e2
          simp only [(List.getElem?_eq_some_iff.1 hy1).1, if_true] at hz
          cases hz
          exact .inr (.inl ⟨rfl, rfl⟩)
        · rename_i e2
          rw [List.getElem?_set_ne e] at hz
          exact .inr (.inr ⟨fun h => e h.symm, fun h => e2 h.symm, hz⟩)
    have same : ∀ {i : Nat} {z : Pc}, (((P.set w (x.ticked n)).set 0 (y.gave (need - a) 0)).set w ((x.ticked n).got (giveF b (need - a)) 0)).X[i]? = some z → ∃ y, P.X[i]? = some y ∧ z.r = y.r := by
      intro i z hz
      rcases get hz with ⟨rfl, rfl⟩ | ⟨rfl, rfl⟩ | ⟨_, _, hz⟩
      · exact ⟨x, hx, rfl⟩
      · exact ⟨y, hy, rfl⟩
      · exact ⟨z, hz, rfl⟩
    refine ⟨by rw [decide_eq_true ⟨by omega, hb⟩], set_ok (set_ok (set_ok h.ok hx tok) hy1 hyg) hx2 hxg, hw, fun z hz => ?_, fun z hz => ?_, fun i z hz q1 q2 => ?_, fun i z hz => ?_, fun i z y hz hy => ?_, ?_⟩
    · rcases get hz with ⟨e, _⟩ | ⟨_, rfl⟩ | ⟨_, e, _⟩
      · omega
      · show y.l.d - giveF y.l.d (need - a) = _ ∧ y.l.u - giveF y.l.u 0 = _
        rw [hyd, hyu, hg0]
        exact ⟨rfl, by omega⟩
      · exact absurd rfl e
    · rcases get hz with ⟨_, rfl⟩ | ⟨e, _⟩ | ⟨e, _⟩
      · rw [hgl]
        exact ⟨by dsimp only; omega, by dsimp only; omega, .inl (hlk.trans hl0)⟩
      · omega
      · exact absurd rfl e
    · rcases get hz with ⟨e, _⟩ | ⟨e, _⟩ | ⟨_, _, hz⟩
      · exact absurd e q2
      · exact absurd e q1
      · exact h.oth i z hz q1 q2
    · obtain ⟨y, hy, e⟩ := same hz
      rw [e]; exact h.src i y hy
    · obtain ⟨z1, hz1, e1⟩ := same hz
      obtain ⟨y1, hy1, e2⟩ := same hy
      rw [e1, e2]; exact h.eqv i z1 y1 hz1 hy1
    · have := gc (by omega)
      omega
end
section
set_option maxRecDepth 100000
set_option linter.unusedSimpArgs false
set_option linter.unusedVariables false
set_option maxHeartbeats 16000000
open Go.RowKit

theorem begun_srv {n w : Nat} {P : Pl} {d need : Int} (h : Begun P n d 0) (hn : 2 ≤ n ∧ n ≤ 8) (hd : 0 ≤ d ∧ d ≤ 900) (hw : 0 < w ∧ w < n) (hne : 1 ≤ need ∧ need ≤ 1000) : Srv P n 0 w need 0 d := by
  obtain ⟨hl, hg, hX⟩ := h
  refine ⟨⟨hl, hn, fun i x hx => ?_⟩, hw, fun x hx => ?_, fun x hx => ?_, fun i x hx h1 h2 => ?_, fun i x hx e he => ?_, fun i x y hx hy => ?_, ⟨by omega, by omega, by omega, by omega, by omega, by omega⟩⟩
  · obtain ⟨p, mg, b, v, mv, nv, rfl⟩ := hX i x hx
    have hi : i < n := by rw [← hl]; exact (List.getElem?_eq_some_iff.1 hx).1
    have h0 := newPc_ok hi p mg b v mv nv
    refine ⟨h0.gm, ?_, ?_, ?_, h0.lk, h0.vr, h0.me, h0.one, h0.vers⟩
    · dsimp only
      split
      · exact ⟨hd.1, by dsimp only; omega, Int.le_refl _, by dsimp only; omega, by dsimp only; omega, by dsimp only; omega⟩
      · exact ⟨by decide, by decide, by decide, by decide, by decide, by decide⟩
    · dsimp only; split <;> rfl
    · dsimp only; split <;> rfl
  · obtain ⟨p, mg, b, v, mv, nv, rfl⟩ := hX 0 x hx
    exact ⟨rfl, rfl⟩
  · obtain ⟨p, mg, b, v, mv, nv, rfl⟩ := hX w x hx
    rw [if_neg (by omega)]
    exact ⟨rfl, rfl, .inl rfl⟩
  · obtain ⟨p, mg, b, v, mv, nv, rfl⟩ := hX i x hx
    rw [if_neg h1]
    exact ⟨rfl, rfl⟩
  · obtain ⟨p, mg, b, v, mv, nv, rfl⟩ := hX i x hx
    simp [newPc] at he
  · obtain ⟨p, mg, b, v, mv, nv, rfl⟩ := hX i x hx
    obtain ⟨p', mg', b', v', mv', nv', rfl⟩ := hX 0 y hy
    rfl
structure Sw (b0 n w : Nat) (need down : Int) (o : Option Addr) (ln cap i : Nat) (P : Pl) (a b : Int) : Prop where
  s : Srv P n (4 * i) w need a b
  po : P.o = o
  pl : P.X.length = ln
  pc : P.cap = cap
  fp : ∀ y ∈ (plRes P).fp, b0 ≤ y
  sum : a + b = down
  prog : a = need ∨ b * 2 ^ i ≤ down
theorem pow_pos2 : ∀ i : Nat, (0 : Int) ≤ 2 ^ i
  | 0 => by decide
  | i + 1 => by have := pow_pos2 i; rw [Int.pow_succ]; omega
theorem half_next {b m : Int} {i : Nat} (hb : 0 ≤ b) (h : b * 2 ^ i ≤ m) : (b - (b - b / 2)) * 2 ^ (i + 1) ≤ m := by
  have h1 : (b - (b - b / 2)) * 2 ≤ b := by omega
  have h3 : (b - (b - b / 2)) * 2 ^ (i + 1) = ((b - (b - b / 2)) * 2) * 2 ^ i := by rw [Int.pow_succ, Int.mul_comm (2 ^ i) 2, Int.mul_assoc]
  rw [h3]
  exact Int.le_trans (Int.mul_le_mul_of_nonneg_right h1 (pow_pos2 i)) h
theorem ask_o {P : Pl} {n wi : Nat} : (askP P n wi).1.o = P.o := by
  unfold askP
  split
  · split
    · split <;> rfl
    · rfl
  · rfl
theorem GossipServes_ok {b0 : Nat} {w : World} {a0 a1 a2 : Addr} (hs : Sents b0 w a0 a1 a2) (hB : b0 ≤ w.heap.size) {n0 k0 d0 u0 : Int} (hn0 : i64 n0) (hk0 : i64 k0) (hd0 : i64 d0) (hu0 : i64 u0) :
    Calls Tryz.prog 4 #[.int .i64 n0, .int .i64 k0, .int .i64 d0, .int .i64 u0] w fun e w' => e = .returned (.bool true) ∧ Frm [] w w' := by
  have hI := Inv.nil (P := Tryz.prog) (N := 131) (S := []) (os := []) w
  have bn := within_le (x := n0) (show (2 : Int) ≤ 8 by omega)
  obtain ⟨n, hn⟩ := Int.eq_ofNat_of_zero_le (show 0 ≤ withinF n0 2 8 by omega)
  rw [hn] at bn
  have hn2 : 2 ≤ n ∧ n ≤ 8 := by omega
  have bd := within_le (x := d0) (show (1 : Int) ≤ 900 by omega)
  have bu := within_le (x := u0) (show (1 : Int) ≤ 1000 by omega)
  generalize hD : withinF d0 1 900 = D at bd
  generalize hU : withinF u0 1 1000 = U at bu
  have hnn : IntKind.i64.wrap ((n : Int) - 1) = (n : Int) - 1 := w64 (by omega) (by omega)
  have bw := within_le (x := k0) (show (1 : Int) ≤ (n : Int) - 1 by omega)
  obtain ⟨wi, hwi⟩ := Int.eq_ofNat_of_zero_le (show 0 ≤ withinF k0 1 ((n : Int) - 1) by omega)
  rw [hwi] at bw
  have hwn : 0 < wi ∧ wi < n := by omega
  refine calls_sm (cx 131 [] [] w) (vals := [.int .i64 n0, .int .i64 k0, .int .i64 d0, .int .i64 u0]) mixed Tryz.func4 rfl rfl rfl hI rfl (st rfl ?_); conv => arg 3; whnf
  refine gw ?_
  refine n_sameP (.lit true) rfl rfl rfl (fun _ w1 hp1 hI1 => alive_ok (hs.frm hI1.frm (by simp) hB) (Nat.le_trans hB hI1.frm.size)) ?_; (refine gs ?_)
  refine gw ?_
  refine n_sameP (.int .i64 (n : Nat)) rfl rfl rfl (fun _ w1 hp1 hI1 => by rw [← hn]; exact within_ok n0 2 8 hn0 (by omega) (by omega) (by omega) w1) ?_; (refine gs ?_)
  refine gw ?_
  refine n_sameP (.int .i64 D) rfl rfl rfl (fun _ w1 hp1 hI1 => by rw [← hD]; exact within_ok d0 1 900 hd0 (by omega) (by omega) (by omega) w1) ?_; (refine gs ?_)
  refine gw ?_
  refine n_sameP (.int .i64 U) rfl rfl rfl (fun _ w1 hp1 hI1 => by rw [← hU]; exact within_ok u0 1 1000 hu0 (by omega) (by omega) (by omega) w1) ?_; (refine gs ?_)
  refine gw ?_
  refine n_callN (Y := Pl) (fun P => plRes P) 34 (fun P => .raw (.slice P.o P.X.length P.cap)) (fun P => .slice P.o P.X.length P.cap) (fun P => Begun P n D 0) rfl rfl rfl (fun _ => rfl) (fun w1 hI1 => begun_ok (hs.frm hI1.frm (by simp) hB) (Nat.le_trans hB hI1.frm.size) hn2 (by omega) (by omega) (by omega)) ?_
  intro P0 hP0 hf0
  obtain ⟨hX0, ⟨g, hg⟩, _⟩ := id hP0
  have hC0 := begun_srv (w := wi) (need := U) hP0 hn2 (by omega) hwn bu
  have hF0 : ∀ y ∈ (plRes P0).fp, b0 ≤ y := fun y hy => Nat.le_trans hB (hf0 y hy)
  obtain ⟨o0, cap0, X0⟩ := P0
  dsimp only at hX0 hg hC0 hF0
  subst hg
  dsimp only
  (refine gs ?_)
  refine gw ?_
  refine n_nilSl rfl rfl Tryz.underlying25 rfl rfl ?_
  (refine gs ?_)
  refine gw ?_
  refine n_sameP (.int .i64 (wi : Nat)) rfl rfl rfl (fun _ w1 hp1 hI1 => by rw [hnn, ← hwi]; exact within_ok k0 1 _ hk0 (by omega) (by omega) (by omega) w1) ?_; (refine gs ?_)
  refine gw ?_
  refine n_loop (σ := Nat × Pl × Int × Int) (fun s => [(0, .int .i64 (n : Nat)), (2, .int .i64 D), (3, .int .i64 U), (10, .raw (.slice (some ⟨g, 0, none⟩) X0.length cap0)), (11, .int .i64 (wi : Nat)), (12, .int .i64 (s.1 : Nat))]) (fun s => [⟨34, [.res (plRes s.2.1)], true⟩]) (fun s => s.1 ≤ 12 ∧ Sw b0 n wi U D (some ⟨g, 0, none⟩) X0.length cap0 s.1 s.2.1 s.2.2.1 s.2.2.2) (fun s => 12 - s.1) (0, ⟨some ⟨g, 0, none⟩, cap0, X0⟩, 0, D) mixed ⟨by simp, ⟨hC0, rfl, rfl, rfl, hF0, by simp, .inr (by simp)⟩⟩ (fun _ _ => rfl) rfl (by (repeat (first | exact trivial | refine ⟨⟨rfl, rfl⟩, ?_⟩))) (fun s _ => ⟨by (repeat (first | exact trivial | refine ⟨⟨_, rfl⟩, ?_⟩)), by (repeat (first | exact trivial | refine ⟨⟨_, rfl⟩, ?_⟩))⟩) fun s hs' => ?_
  obtain ⟨i, P, a, b⟩ := s
  obtain ⟨hi1, hC⟩ := hs'
  dsimp only at hi1 hC ⊢
  have hpo := hC.po
  have hpc := hC.pc
  have hpl := hC.pl
  have hab := hC.s.ab
  have hsum := hC.sum
  have hprog := hC.prog
  obtain ⟨x0, hx0⟩ := hC.s.at_ 0 (by omega)
  obtain ⟨xw, hxw⟩ := hC.s.at_ wi hwn.2
  obtain ⟨h0d, h0u⟩ := hC.s.x0 x0 hx0
  obtain ⟨hwd, hwu, _⟩ := hC.s.xw xw hxw
  (refine gs ?_)
  by_cases hil : i < 12
  · have ei : IntKind.i64.wrap ((i : Int) + 1) = ((i + 1 : Nat) : Int) := by rw [w64 (by omega) (by omega)]; simp
    have hil' : (i : Int) < 12 := by omega
    (repeat ((first | refine n_must rfl ?_ | refine n_chk (drawF_ok (by decide +kernel)) ?_ | refine n_same rfl ?_ | ((first | refine n_must ?_ ?_ | refine n_brT ?_ ?_); (focus (first | (simp [hil']; done) | (simp [hil']; omega) | (simp only [hil']; simp; done)))) | (refine n_brF ?_ ?_; (focus (first | (simp [hil']; done) | (simp [hil']; omega) | (simp only [hil']; simp; done)))) | refine n_must (by (with_reducible refine and_shape ?_) <;> kernel_rfl) ?_); (refine gs ?_)))
    (refine n_ldA (.raw (pV x0.b)) rfl (by first | exact trivial | rfl) rfl (fun _ w1 _ hI1 => load_cell aggLp (row_at pc_len (hpo ▸ memRes_res (hI1.res 0 rfl rfl) 0 rfl rfl) hx0 (j := 1) (by omega) rfl (by rw [add_add]; rfl))) ?_; (refine gs ?_))
    refine gw ?_
    refine n_sameP (.agg [.int .i64 x0.l.d, .int .i64 x0.l.u]) rfl rfl rfl (fun _ w1 hp1 hI1 => rights_pl (hI1.res 0 rfl rfl) hx0) ?_; (refine gs ?_)
    rw [h0d]
    refine gw ?_
    (refine n_ldA (.raw (pV xw.b)) rfl (by first | exact trivial | rfl) rfl (fun _ w1 _ hI1 => load_cell aggLp (row_at pc_len (hpo ▸ memRes_res (hI1.res 0 rfl rfl) 0 rfl rfl) hxw (j := 1) (by omega) rfl (by rw [add_add]; rfl))) ?_; (refine gs ?_))
    refine gw ?_
    refine n_sameP (.agg [.int .i64 xw.l.d, .int .i64 xw.l.u]) rfl rfl rfl (fun _ w1 hp1 hI1 => rights_pl (hI1.res 0 rfl rfl) hxw) ?_; (refine gs ?_)
    rw [hwd]
    refine gw ?_
    refine n_callR (Y := Unit) 0 (fun _ => plRes (spreadP P 0)) (fun _ => .bool true) (fun _ => .bool true) (fun _ => Srv (spreadP P 0) n (4 * i + 2) wi U a b ∧ (∀ (j : Nat) x, (spreadP P 0).X[j]? = some x → (lastF x.r.All 0 nmA).d = b ∧ (lastF x.r.All 0 nmA).u = 0) ∧ (spreadP P 0).o = some ⟨g, 0, none⟩ ∧ (spreadP P 0).X.length = X0.length ∧ (spreadP P 0).cap = cap0 ∧ ∀ y ∈ (plRes (spreadP P 0)).fp, b0 ≤ y) rfl rfl (fun _ => rfl) rfl rfl rfl (fun _ w1 _ hI1 hR1 => ?_) ?_
    · have h := spread_ok (b0 := b0) hC.s.ok (by omega) (wi := 0) (by omega) hR1
      rw [hpo, hpl, hpc] at h
      have h1 := srv_spread hC.s (by omega)
      have h2 := spread_ok' (wi := 0) hC.s.ok (by omega) (by omega)
      exact h.mono fun e w' ⟨he, hP⟩ => ⟨(), he, ⟨h1.1, h1.2, h2.2.trans hpo, h2.1.len.trans hX0.symm, spread_cap.trans hpc, post_fp hC.fp (Nat.le_trans hB hI1.frm.size) hP⟩, hP⟩
    intro _ ⟨hS1, hk1, ho1, hl1, hc1, hf1⟩
    generalize spreadP P 0 = P1 at hS1 hk1 ho1 hl1 hc1 hf1 ⊢
    obtain ⟨y, hy⟩ := hS1.at_ wi hwn.2
    obtain ⟨hS2, hlk⟩ := srv_need hS1 hy
    have hk2 := hk1 wi y hy
    have ho2 : (P1.set wi (y.need U 0)).o = some ⟨g, 0, none⟩ := ho1
    have hl2 : (P1.set wi (y.need U 0)).X.length = X0.length := (List.length_set ..).trans hl1
    have hc2 : (P1.set wi (y.need U 0)).cap = cap0 := hc1
    have hy2 : (P1.set wi (y.need U 0)).X[wi]? = some (y.need U 0) := List.getElem?_set_self (List.getElem?_eq_some_iff.1 hy).1
    (refine gs ?_)
    refine gw ?_
    (refine n_ldA (.raw (pV y.p)) rfl (by first | exact trivial | rfl) rfl (fun _ w1 _ hI1 => load_cell aggGp (row_at pc_len (ho1 ▸ memRes_res (hI1.res 0 rfl rfl) 0 rfl rfl) hy (j := 0) (by omega) rfl (by rw [Int.toNat_natCast, add_add]; rfl))) ?_; (refine gs ?_))
    refine gw ?_
    refine n_callR (Y := Unit) 0 (fun _ => plRes (P1.set wi (y.need U 0))) (fun _ => .tup []) (fun _ => .tuple #[]) (fun _ => ∀ z ∈ (plRes (P1.set wi (y.need U 0))).fp, b0 ≤ z) rfl rfl (fun _ => rfl) rfl rfl rfl (fun _ w1 _ hI1 hR1 => ?_) ?_
    · exact (need_pl hR1 hy U 0).mono fun e w' ⟨he, hP⟩ => ⟨(), he, post_fp hf1 (Nat.le_trans hB hI1.frm.size) hP, hP⟩
    intro _ hf2
    generalize P1.set wi (y.need U 0) = P2 at hS2 ho2 hl2 hc2 hy2 hf2 ⊢
    (refine gs ?_)
    refine gw ?_
    refine n_callR (Y := Unit) 0 (fun _ => plRes (askP P2 n wi).1) (fun _ => .tup [.bool true, .bool (askP P2 n wi).2]) (fun _ => .tuple #[.bool true, .bool (askP P2 n wi).2]) (fun _ => (askP P2 n wi).2 = decide (a < U ∧ 0 < b) ∧ Srv (askP P2 n wi).1 n (4 * i + 2) wi U (if a < U ∧ 0 < b then a + giveF b (U - a) else a) (if a < U ∧ 0 < b then b - giveF b (U - a) else b) ∧ (askP P2 n wi).1.o = some ⟨g, 0, none⟩ ∧ (askP P2 n wi).1.X.length = X0.length ∧ (askP P2 n wi).1.cap = cap0 ∧ ∀ y ∈ (plRes (askP P2 n wi).1).fp, b0 ≤ y) rfl rfl (fun _ => rfl) rfl rfl rfl (fun _ w1 _ hI1 hR1 => ?_) ?_
    · have h := asks_ok (hs.frm hI1.frm (by simp) hB) (Nat.le_trans hB hI1.frm.size) hf2 hS2.ok hS2.two hwn.2 hR1
      rw [ho2, hl2, hc2] at h
      have h1 := srv_ask hS2 hy2 hlk hk2 (pl_nd hR1 wi _ hy2)
      exact h.mono fun e w' ⟨he, hP⟩ => ⟨(), he, ⟨h1.1, h1.2, ask_o.trans ho2, h1.2.ok.len.trans hX0.symm, ask_cap.trans hc2, post_fp hf2 (Nat.le_trans hB hI1.frm.size) hP⟩, hP⟩
    intro _ ⟨ha, hS3, ho3, hl3, hc3, hf3⟩
    rw [ha]
    generalize (askP P2 n wi).1 = P3 at hS3 ho3 hl3 hc3 hf3 ⊢
    have hS4 : ∀ {c d : Int}, Srv P3 n (4 * i + 2) wi U c d → Srv P3 n (4 * (i + 1)) wi U c d := fun h => { h with ok := ⟨h.ok.len, h.ok.nn, fun j y hy => (h.ok.each j y hy).mono (by omega)⟩ }
    by_cases hq : a < U ∧ 0 < b
    · rw [if_pos hq, if_pos hq] at hS3
      rw [decide_eq_true hq]
      obtain ⟨hq1, hq2⟩ := hq
      have hdv : b.tdiv 2 = b / 2 := Int.tdiv_eq_ediv_of_nonneg (by omega)
      have hdv1 : (b + 1).tdiv 2 = (b + 1) / 2 := Int.tdiv_eq_ediv_of_nonneg (by omega)
      have hgv : giveF b (U - a) = min (U - a) ((b + 1) / 2) := by
        unfold giveF
        rw [hdv]; omega
      have hgc : giveF b (U - a) = U - a ∨ giveF b (U - a) = b - b / 2 := by rw [hgv]; omega
      obtain ⟨z, hz⟩ := hS3.at_ wi hwn.2
      have hzd := (hS3.xw z hz).1
      have e1 : IntKind.i64.wrap (U - a) = U - a := w64 (by omega) (by omega)
      have e2 : IntKind.i64.wrap (b + 1) = b + 1 := w64 (by omega) (by omega)
      have e3 : IntKind.i64.wrap ((b + 1).tdiv 2) = (b + 1) / 2 := by rw [hdv1]; exact w64 (by omega) (by omega)
      have e4 : IntKind.i64.wrap (a + min (U - a) ((b + 1) / 2)) = z.l.d := by rw [hzd, hgv]; exact w64 (by omega) (by omega)
      rw [hgv] at hzd
      (refine gs ?_)
      (repeat ((first | refine n_must rfl ?_ | refine n_chk (drawF_ok (by decide +kernel)) ?_ | refine n_same rfl ?_ | ((first | refine n_must ?_ ?_ | refine n_brT ?_ ?_); (focus (first | (simp [hq1, hq2]; done) | (simp [hq1, hq2]; omega) | (simp only [hq1, hq2]; simp; done)))) | (refine n_brF ?_ ?_; (focus (first | (simp [hq1, hq2]; done) | (simp [hq1, hq2]; omega) | (simp only [hq1, hq2]; simp; done)))) | refine n_must (by (with_reducible refine and_shape ?_) <;> kernel_rfl) ?_); (refine gs ?_)))
      (refine n_ldA (.raw (pV z.b)) rfl (by first | exact trivial | rfl) rfl (fun _ w1 _ hI1 => load_cell aggLp (row_at pc_len (ho3 ▸ memRes_res (hI1.res 0 rfl rfl) 0 rfl rfl) hz (j := 1) (by omega) rfl (by rw [add_add]; rfl))) ?_; (refine gs ?_))
      refine gw ?_
      refine n_sameP (.agg [.int .i64 z.l.d, .int .i64 z.l.u]) rfl rfl rfl (fun _ w1 hp1 hI1 => rights_pl (hI1.res 0 rfl rfl) hz) ?_; (refine gs ?_)
      (repeat ((first | refine n_must rfl ?_ | refine n_chk (drawF_ok (by decide +kernel)) ?_ | refine n_same rfl ?_ | ((first | refine n_must ?_ ?_ | refine n_brT ?_ ?_); (focus (first | (simp [e1, e2, e3, e4]; done) | (simp [e1, e2, e3, e4]; omega) | (simp only [e1, e2, e3, e4]; simp; done)))) | (refine n_brF ?_ ?_; (focus (first | (simp [e1, e2, e3, e4]; done) | (simp [e1, e2, e3, e4]; omega) | (simp only [e1, e2, e3, e4]; simp; done)))) | refine n_must (by (with_reducible refine and_shape ?_) <;> kernel_rfl) ?_); (refine gs ?_)))
      exact n_again ⟨(i + 1, P3, a + giveF b (U - a), b - giveF b (U - a)), ⟨by dsimp only; omega, ⟨hS4 hS3, ho3, hl3, hc3, hf3, by dsimp only; omega, by
        dsimp only
        rcases hgc with h | h
        · left; omega
        · right
          rw [h]
          rcases hprog with h2 | h2
          · omega
          · exact half_next (by omega) h2⟩⟩, by dsimp only; omega, (by (repeat (first | exact trivial | refine ⟨⟨rfl, rfl⟩, ?_⟩ | refine ⟨⟨rfl, congrArg (SV.int .i64) ei⟩, ?_⟩))), ⟨_, rfl⟩⟩
    · rw [if_neg hq, if_neg hq] at hS3
      rw [decide_eq_false hq]
      have hq' : ¬ a < U ∨ (a < U ∧ b = 0) := by omega
      have hmin : a = min U D := by omega
      (refine gs ?_)
      rcases hq' with hq' | ⟨hq', hb0⟩
      · (repeat ((first | refine n_must rfl ?_ | refine n_chk (drawF_ok (by decide +kernel)) ?_ | refine n_same rfl ?_ | ((first | refine n_must ?_ ?_ | refine n_brT ?_ ?_); (focus (first | (simp [hq', hmin]; done) | (simp [hq', hmin]; omega) | (simp only [hq', hmin]; simp; done)))) | (refine n_brF ?_ ?_; (focus (first | (simp [hq', hmin]; done) | (simp [hq', hmin]; omega) | (simp only [hq', hmin]; simp; done)))) | refine n_must (by (with_reducible refine and_shape ?_) <;> kernel_rfl) ?_); (refine gs ?_)))
        exact n_again ⟨(i + 1, P3, a, b), ⟨by dsimp only; omega, ⟨hS4 hS3, ho3, hl3, hc3, hf3, hsum, .inl (by dsimp only; omega)⟩⟩, by dsimp only; omega, (by (repeat (first | exact trivial | refine ⟨⟨rfl, rfl⟩, ?_⟩ | refine ⟨⟨rfl, congrArg (SV.int .i64) ei⟩, ?_⟩))), ⟨_, rfl⟩⟩
      · (repeat ((first | refine n_must rfl ?_ | refine n_chk (drawF_ok (by decide +kernel)) ?_ | refine n_same rfl ?_ | ((first | refine n_must ?_ ?_ | refine n_brT ?_ ?_); (focus (first | (simp [hq', hmin, hb0]; done) | (simp [hq', hmin, hb0]; omega) | (simp only [hq', hmin, hb0]; simp; done)))) | (refine n_brF ?_ ?_; (focus (first | (simp [hq', hmin, hb0]; done) | (simp [hq', hmin, hb0]; omega) | (simp only [hq', hmin, hb0]; simp; done)))) | refine n_must (by (with_reducible refine and_shape ?_) <;> kernel_rfl) ?_); (refine gs ?_)))
        exact n_again ⟨(i + 1, P3, a, b), ⟨by dsimp only; omega, ⟨hS4 hS3, ho3, hl3, hc3, hf3, hsum, .inr (by dsimp only; rw [hb0]; simp; omega)⟩⟩, by dsimp only; omega, (by (repeat (first | exact trivial | refine ⟨⟨rfl, rfl⟩, ?_⟩ | refine ⟨⟨rfl, congrArg (SV.int .i64) ei⟩, ?_⟩))), ⟨_, rfl⟩⟩
  · obtain rfl : i = 12 := by omega
    have hil' : ¬ (12 : Int) < 12 := by omega
    have hfin : a = min U D := by
      rcases hprog with h | h
      · omega
      · have : (2 : Int) ^ 12 = 4096 := by decide
        rw [this] at h
        omega
    (repeat ((first | refine n_must rfl ?_ | refine n_chk (drawF_ok (by decide +kernel)) ?_ | refine n_same rfl ?_ | ((first | refine n_must ?_ ?_ | refine n_brT ?_ ?_); (focus (first | (simp [hil']; done) | (simp [hil']; omega) | (simp only [hil']; simp; done)))) | (refine n_brF ?_ ?_; (focus (first | (simp [hil']; done) | (simp [hil']; omega) | (simp only [hil']; simp; done)))) | refine n_must (by (with_reducible refine and_shape ?_) <;> kernel_rfl) ?_); (refine gs ?_)))
    refine n_exit rfl ?_
    (refine gs ?_)
    refine gw ?_
    (refine n_ldA (.raw (pV xw.b)) rfl (by first | exact trivial | rfl) rfl (fun _ w1 _ hI1 => load_cell aggLp (row_at pc_len (hpo ▸ memRes_res (hI1.res 0 rfl rfl) 0 rfl rfl) hxw (j := 1) (by omega) rfl (by rw [add_add]; rfl))) ?_; (refine gs ?_))
    refine gw ?_
    refine n_sameP (.agg [.int .i64 xw.l.d, .int .i64 xw.l.u]) rfl rfl rfl (fun _ w1 hp1 hI1 => rights_pl (hI1.res 0 rfl rfl) hxw) ?_; (refine gs ?_)
    rw [hwd]
    refine gw ?_
    have hbe : (a == min U D) = true := by simp [hfin]
    rw [hbe]
    exact n_ret0 rfl rfl fun ids' w' hp hI' => ⟨rfl, hI'.frm⟩
end
end Go.Proofs.YtglafgpjgkphkaaGreatDoor
