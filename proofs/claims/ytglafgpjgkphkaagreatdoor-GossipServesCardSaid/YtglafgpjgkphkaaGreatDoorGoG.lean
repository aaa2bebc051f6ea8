/- The document's gossip: Tick. -/
import Derived.Test.YtglafgpjgkphkaaGreatDoorGoF
set_option maxRecDepth 100000
set_option linter.unusedSimpArgs false
set_option linter.unusedVariables false
set_option maxHeartbeats 8000000
namespace Go.Proofs.YtglafgpjgkphkaaGreatDoor
open Go.RowKit

def toF (me wd wu : Int) (K : List (Int × Int)) : Int :=
  if (if 0 < wd then askF me (K.map (kindF true)) else -1) < 0 ∧ 0 < wu then askF me (K.map (kindF false)) else (if 0 < wd then askF me (K.map (kindF true)) else -1)
abbrev tickV (x : Int × (Int × Int) × Bool) : Value := .tuple #[.int .i64 x.1, rtV x.2.1, .bool x.2.2]
def tickWR (s : Rg) (nm : ByteArray) (wd wu : Int) (K : List (Int × Int)) : Rg × Int × (Int × Int) × Bool :=
  if wd = 0 ∧ wu = 0 then (s.clear nm, 0, (0, 0), false) else
  if toF s.me wd wu K < 0 then (s, 0, (0, 0), false) else (s.clear nm, toF s.me wd wu K, (wd, wu), true)
def Rg.tick (s : Rg) (nm : ByteArray) (d u : Int) (K : List (Int × Int)) : Rg × Int × (Int × Int) × Bool :=
  tickWR s nm (max 0 (IntKind.i64.wrap ((lackR s.All nm).1 - d))) (max 0 (IntKind.i64.wrap ((lackR s.All nm).2 - u))) K
theorem take_next {α β : Type} {l : List α} {i : Nat} {x : α} (h : l[i]? = some x) (f : α → β) : (l.take (i + 1)).map f = (l.take i).map f ++ [f x] := by
  rw [List.take_add_one, h]; simp
theorem elemInt : sliceElem Tryz.prog 95 = some 3 := by kernel_rfl

theorem rTick_ok {p b pv : Nat} {o ov : Option Addr} {cap cv n : Nat} {s : Rg} {l : Led} {v : Rv} {w : World} (hR : (rgRes p o cap s).R w) (hsl : s.All.length ≤ 100000) (hme : -10 ≤ s.me ∧ s.me ≤ 1000) (hb : Blk w b l.cells 118) (hV : (rvRes pv ov cv v).R w) (hvl : v.All.length ≤ 100000) (hvn : v.n = (n : Int)) (hn : n ≤ 1000) (hbp : b ∉ (rgRes p o cap s).fp) (hbv : b ∉ (rvRes pv ov cv v).fp) (hpv : ∀ x ∈ (rgRes p o cap s).fp, x ∉ (rvRes pv ov cv v).fp) (nm : ByteArray) :
    Calls Tryz.prog 50 #[pV p, .string nm, pV b, pV pv] w fun e w' => e = .returned (tickV (s.tick nm l.d l.u (rKnownL v.All nm n)).2) ∧ Post (rgRes p o cap s) (rgRes p o cap (s.tick nm l.d l.u (rKnownL v.All nm n)).1) w w' := by
  obtain ⟨it, hit, hparts⟩ := Option.map_eq_some_iff.1 intInfo
  simp only [Prod.mk.injEq] at hparts
  have hI : Inv (cx 102 [] (rgRes p o cap s).fp w) w [0, b, 0, 0, 0] [⟨115, [.res (rgRes p o cap s)], true⟩, ⟨118, l.sv, false⟩, ⟨121, [.res (rvRes pv ov cv v)], false⟩, ⟨3, [.res (rowRes 3 1 none 0 0 [])], true⟩, ⟨3, [.res (rowRes 3 1 none 0 0 [])], true⟩] :=
    (((((Inv.nil w).consR (by simp) hR (memRes_lt hR) (by simp)).cons (by simpa using hbp) rfl hb (by simp)).consR (by intro x hx hm; simp at hm; rcases hm with hm | rfl; exact hpv x hm hx; exact hbv hx) hV (memRes_lt hV) (by simp)).consR (by simp [rowRes]) (rowRes_nil _ _ _) (by simp [rowRes]) (by simp [rowRes])).consR (by simp [rowRes]) (rowRes_nil _ _ _) (by simp [rowRes]) (by simp [rowRes])
  generalize hK : rKnownL v.All nm n = K
  have hKl : K.length = n := by rw [← hK]; simp [rKnownL]
  have htick : s.tick nm l.d l.u K = tickWR s nm (max 0 (IntKind.i64.wrap ((lackR s.All nm).1 - l.d))) (max 0 (IntKind.i64.wrap ((lackR s.All nm).2 - l.u))) K := rfl
  refine calls_sm (cx 102 [] (rgRes p o cap s).fp w) (vals := [.raw (pV p), .str nm, .ptr 1 0, .raw (pV pv)]) mixed Tryz.func50 rfl rfl rfl hI rfl (st rfl ?_); conv => arg 3; whnf
  refine gg ?_
  refine n_sameP (.agg [.int .i64 (lackR s.All nm).1, .int .i64 (lackR s.All nm).2]) rfl rfl rfl (fun _ w1 hp1 hI1 => rLacks_ok (hI1.res 0 rfl rfl) (by omega) nm) ?_; (refine gs ?_)
  generalize lackR s.All nm = lack at htick ⊢
  refine gg ?_
  refine n_sameP (.agg [.int .i64 l.d, .int .i64 l.u]) rfl rfl rfl (fun _ w1 hp1 hI1 => rRights_ok l (hI1.blk_at hp1 1 rfl rfl rfl)) ?_; (refine gs ?_)
  refine gg ?_
  have hwd0 : 0 ≤ max 0 (IntKind.i64.wrap (lack.1 - l.d)) := by omega
  have hwu0 : 0 ≤ max 0 (IntKind.i64.wrap (lack.2 - l.u)) := by omega
  generalize max 0 (IntKind.i64.wrap (lack.1 - l.d)) = wd at htick hwd0 ⊢
  generalize max 0 (IntKind.i64.wrap (lack.2 - l.u)) = wu at htick hwu0 ⊢
  by_cases h0 : wd = 0 ∧ wu = 0
  · have e : s.tick nm l.d l.u K = (s.clear nm, 0, (0, 0), false) := by rw [htick, tickWR, if_pos h0]
    rw [e]
    obtain ⟨rfl, rfl⟩ := h0
    refine gw ?_
    refine n_callR (Y := Unit) 0 (fun _ => rgRes p o cap (s.clear nm)) (fun _ => .tup []) (fun _ => .tuple #[]) (fun _ => True) rfl rfl (fun _ => rfl) rfl rfl rfl (fun _ w1 hp1 hI1 hR => (rclear_ok hR (by omega) nm).mono fun e w' ⟨he, hf⟩ => ⟨(), he, trivial, hf⟩) ?_
    intro _ _
    (refine gs ?_)
    refine gw ?_
    exact n_ret0 rfl rfl fun ids' w' hp hI' => ⟨rfl, post_res hI' rfl 0 rfl rfl rfl⟩
  · repeat' (first | (refine n_must rfl ?_; (refine gs ?_)) | (refine n_chk (drawF_ok (by decide +kernel)) ?_; (refine gs ?_)) | (refine n_same rfl ?_; (refine gs ?_)) | (refine n_br (fun hbr => ?_) (fun hbr => ?_) <;> simp only [beq_iff_eq, beq_eq_false_iff_ne, ne_eq] at hbr <;> (refine gs ?_)))
    all_goals first | (exfalso; omega) | skip
    all_goals
      refine n_call3 rfl fun b1 b2 b3 => ?_
      refine n_callN (fun y : Option Addr × Nat => rowRes 37 2 y.1 n y.2 (K.flatMap rtL)) 37 (fun y => .raw (.slice y.1 n y.2)) (fun y => .slice y.1 n y.2) (fun y => 0 < n → ∃ g, y.1 = some ⟨g, 0, none⟩) rfl rfl rfl (fun _ => rfl) (fun w1 hI1 => hK ▸ (rKnown_ok (hI1.res 2 rfl rfl) hvl hvn hn nm).mono fun e w' ⟨y, he, _, hf⟩ => ⟨y, he, fun h0 => rowRes_some' hf.2.1 h0, hf⟩) ?_
      rintro ⟨ok, ck⟩ hok hnk
      dsimp only at hok
      (refine gs ?_)
      refine gw ?_
      refine n_loop (σ := Nat × (Option Addr × Nat) × Option Addr × Nat) (fun t => [(0, .raw (pV p)), (1, .str nm), (9, .ptr 5 0), (13, .int .i64 wd), (14, .int .i64 wu), (15, .raw (.slice ok n ck)), (16, .raw (.slice t.2.1.1 t.1 t.2.1.2)), (17, .raw (.slice t.2.2.1 t.1 t.2.2.2)), (18, .int .i64 (t.1 : Nat))]) (fun t => [⟨115, [.res (rgRes p o cap s)], true⟩, ⟨118, l.sv, false⟩, ⟨121, [.res (rvRes pv ov cv v)], false⟩, ⟨3, [.res (rowRes 3 1 t.2.1.1 t.1 t.2.1.2 (((K.take t.1).map (kindF true)).map intV))], true⟩, ⟨3, [.res (rowRes 3 1 t.2.2.1 t.1 t.2.2.2 (((K.take t.1).map (kindF false)).map intV))], true⟩, ⟨37, [.int .i64 0, .int .i64 0], true⟩, ⟨37, [.int .i64 lack.1, .int .i64 lack.2], true⟩, ⟨37, [.int .i64 l.d, .int .i64 l.u], true⟩, ⟨37, [.res (rowRes 37 2 ok n ck (K.flatMap rtL))], true⟩]) (fun t => t.1 ≤ n) (fun t => n - t.1) (0, (none, 0), none, 0) mixed (by simp) (fun _ _ => rfl) (by simp) (by (repeat (first | exact trivial | refine ⟨⟨rfl, rfl⟩, ?_⟩))) (fun s _ => ⟨by (repeat (first | exact trivial | refine ⟨⟨_, rfl⟩, ?_⟩)), by (repeat (first | exact trivial | refine ⟨⟨_, rfl⟩, ?_⟩))⟩) fun t hk => ?_
      obtain ⟨k, ⟨o1, c1⟩, o2, c2⟩ := t
      dsimp only at hk ⊢
      (refine gs ?_)
      by_cases hlt : k < n
      · have ek : IntKind.i64.wrap ((k : Int) + 1) = ((k + 1 : Nat) : Int) := by rw [w64 (by omega) (by omega)]; simp
        obtain ⟨gk, rfl⟩ := hok (by omega)
        have hx : K[k]? = some K[k] := List.getElem?_eq_getElem _
        generalize K[k] = x at hx
        have hn1 := take_next hx (kindF true)
        have hn2 := take_next hx (kindF false)
        refine gw ?_
        refine n_ldI (.int .i64 x.1) rfl rfl (fun _ w1 _ hI1 => load_cell aggInt (rts_cell (row_read (hI1.res 8 rfl rfl)) hx (j := 0) rfl (by simp [add_add]))) ?_
        (refine gs ?_)
        refine gw ?_
        refine n_build1 rfl rfl elemInt rfl rfl rfl rfl rfl rfl rfl rfl rfl ?_
        (refine gs ?_)
        refine gw ?_
        refine n_append (nv := [.int .i64 x.1]) 3 rfl rfl elemInt hit hparts.1 hparts.2.1 hparts.2.2 rfl (by omega) rfl rfl rfl rfl rfl rfl (by omega) (by simp [Value.oneCell']) (by omega) (by omega) (show ((K.take k).map (kindF true)).map intV ++ [Value.int .i64 x.1] = ((K.take (k + 1)).map (kindF true)).map intV by rw [hn1]; simp [kindF]) fun g1 c1' => ?_
        (refine gs ?_)
        refine gw ?_
        refine n_ldI (.int .i64 x.2) rfl rfl (fun _ w1 _ hI1 => load_cell aggInt (rts_cell (row_read (hI1.res 8 rfl rfl)) hx (j := 1) rfl (by simp [add_add]))) ?_
        (refine gs ?_)
        refine gw ?_
        refine n_build1 rfl rfl elemInt rfl rfl rfl rfl rfl rfl rfl rfl rfl ?_
        (refine gs ?_)
        refine gw ?_
        refine n_append (nv := [.int .i64 x.2]) 4 rfl rfl elemInt hit hparts.1 hparts.2.1 hparts.2.2 rfl (by omega) rfl rfl rfl rfl rfl rfl (by omega) (by simp [Value.oneCell']) (by omega) (by omega) (show ((K.take k).map (kindF false)).map intV ++ [Value.int .i64 x.2] = ((K.take (k + 1)).map (kindF false)).map intV by rw [hn2]; simp [kindF]) fun g2 c2' => ?_
        (refine gs ?_)
        refine gw ?_
        exact n_again ⟨(k + 1, (some ⟨g1, 0, none⟩, c1'), some ⟨g2, 0, none⟩, c2'), by dsimp only; omega, by dsimp only; omega, (by (repeat (first | exact trivial | refine ⟨⟨rfl, rfl⟩, ?_⟩ | refine ⟨⟨rfl, congrArg (SV.int .i64) ek⟩, ?_⟩))), ⟨_, rfl⟩⟩
      · obtain rfl : k = n := by omega
        have htk : K.take k = K := List.take_of_length_le (by omega)
        rw [htk]
        refine gw ?_
        refine n_exit rfl ?_
        (refine gs ?_)
        by_cases hd : 0 < wd
        · first
          | exfalso; omega
          | (repeat ((first | refine n_must rfl ?_ | refine n_chk (drawF_ok (by decide +kernel)) ?_ | refine n_same rfl ?_ | ((first | refine n_must ?_ ?_ | refine n_brT ?_ ?_); (focus (first | (simp [hd]; done) | (simp [hd]; omega) | (simp only [hd]; simp; done)))) | (refine n_brF ?_ ?_; (focus (first | (simp [hd]; done) | (simp [hd]; omega) | (simp only [hd]; simp; done)))) | refine n_must (by (with_reducible refine and_shape ?_) <;> kernel_rfl) ?_); (refine gs ?_)))
            refine n_ldI (.int .i64 s.me) rfl rfl (fun _ w1 _ hI1 => load_cell aggInt (blk_at (memRes_blk (hI1.res 0 rfl rfl) 0 rfl rfl rfl) (j := 0) rfl rfl)) ?_
            (refine gs ?_)
            refine gw ?_
            refine n_sameP (.int .i64 (askF s.me (K.map (kindF true)))) rfl rfl rfl (fun _ w1 hp1 hI1 => by
              have := rAsk_ok (o := o1) (l := K.map (kindF true)) (cap := c1) (row_read (hI1.res 3 rfl rfl)) (fun x hx => hI1.resLt 3 rfl rfl x (rd_inR hx)) (by rw [List.length_map]; omega) s.me hme
              rw [List.length_map, hKl] at this
              exact this) ?_
            (refine gs ?_)
            by_cases ht : askF s.me (K.map (kindF true)) < 0
            · by_cases hu : 0 < wu
              · (repeat ((first | refine n_must rfl ?_ | refine n_chk (drawF_ok (by decide +kernel)) ?_ | refine n_same rfl ?_ | ((first | refine n_must ?_ ?_ | refine n_brT ?_ ?_); (focus (first | (simp [ht, hu]; done) | (simp [ht, hu]; omega) | (simp only [ht, hu]; simp; done)))) | (refine n_brF ?_ ?_; (focus (first | (simp [ht, hu]; done) | (simp [ht, hu]; omega) | (simp only [ht, hu]; simp; done)))) | refine n_must (by (with_reducible refine and_shape ?_) <;> kernel_rfl) ?_); (refine gs ?_)))
                refine n_ldI (.int .i64 s.me) rfl rfl (fun _ w1 _ hI1 => load_cell aggInt (blk_at (memRes_blk (hI1.res 0 rfl rfl) 0 rfl rfl rfl) (j := 0) rfl rfl)) ?_
                (refine gs ?_)
                refine gw ?_
                refine n_sameP (.int .i64 (askF s.me (K.map (kindF false)))) rfl rfl rfl (fun _ w1 hp1 hI1 => by
                  have := rAsk_ok (o := o2) (l := K.map (kindF false)) (cap := c2) (row_read (hI1.res 4 rfl rfl)) (fun x hx => hI1.resLt 4 rfl rfl x (rd_inR hx)) (by rw [List.length_map]; omega) s.me hme
                  rw [List.length_map, hKl] at this
                  exact this) ?_
                (refine gs ?_)
                have eto : toF s.me wd wu K = askF s.me (K.map (kindF false)) := by unfold toF; rw [if_pos hd, if_pos ⟨ht, hu⟩]
                by_cases ht2 : askF s.me (K.map (kindF false)) < 0
                · (repeat ((first | refine n_must rfl ?_ | refine n_chk (drawF_ok (by decide +kernel)) ?_ | refine n_same rfl ?_ | ((first | refine n_must ?_ ?_ | refine n_brT ?_ ?_); (focus (first | (simp [ht2]; done) | (simp [ht2]; omega) | (simp only [ht2]; simp; done)))) | (refine n_brF ?_ ?_; (focus (first | (simp [ht2]; done) | (simp [ht2]; omega) | (simp only [ht2]; simp; done)))) | refine n_must (by (with_reducible refine and_shape ?_) <;> kernel_rfl) ?_); (refine gs ?_)))
                  have e : s.tick nm l.d l.u K = (s, 0, (0, 0), false) := by rw [htick, tickWR, if_neg h0, eto, if_pos ht2]
                  rw [e]
                  exact n_ret0 rfl rfl fun ids' w' hp hI' => ⟨rfl, post_res hI' rfl 0 rfl rfl rfl⟩
                · (repeat ((first | refine n_must rfl ?_ | refine n_chk (drawF_ok (by decide +kernel)) ?_ | refine n_same rfl ?_ | ((first | refine n_must ?_ ?_ | refine n_brT ?_ ?_); (focus (first | (simp [ht2]; done) | (simp [ht2]; omega) | (simp only [ht2]; simp; done)))) | (refine n_brF ?_ ?_; (focus (first | (simp [ht2]; done) | (simp [ht2]; omega) | (simp only [ht2]; simp; done)))) | refine n_must (by (with_reducible refine and_shape ?_) <;> kernel_rfl) ?_); (refine gs ?_)))
                  have e : s.tick nm l.d l.u K = (s.clear nm, (askF s.me (K.map (kindF false))), (wd, wu), true) := by rw [htick, tickWR, if_neg h0, eto, if_neg ht2]
                  rw [e]
                  refine n_callR (Y := Unit) 0 (fun _ => rgRes p o cap (s.clear nm)) (fun _ => .tup []) (fun _ => .tuple #[]) (fun _ => True) rfl rfl (fun _ => rfl) rfl rfl rfl (fun _ w1 hp1 hI1 hR => (rclear_ok hR (by omega) nm).mono fun e w' ⟨he, hf⟩ => ⟨(), he, trivial, hf⟩) ?_
                  intro _ _
                  (refine gs ?_)
                  refine gw ?_
                  exact n_ret0 rfl rfl fun ids' w' hp hI' => ⟨rfl, post_res hI' rfl 0 rfl rfl rfl⟩
              · (repeat ((first | refine n_must rfl ?_ | refine n_chk (drawF_ok (by decide +kernel)) ?_ | refine n_same rfl ?_ | ((first | refine n_must ?_ ?_ | refine n_brT ?_ ?_); (focus (first | (simp [ht, hu]; done) | (simp [ht, hu]; omega) | (simp only [ht, hu]; simp; done)))) | (refine n_brF ?_ ?_; (focus (first | (simp [ht, hu]; done) | (simp [ht, hu]; omega) | (simp only [ht, hu]; simp; done)))) | refine n_must (by (with_reducible refine and_shape ?_) <;> kernel_rfl) ?_); (refine gs ?_)))
                have eto : toF s.me wd wu K = askF s.me (K.map (kindF true)) := by unfold toF; rw [if_pos hd, if_neg (by rintro ⟨_, h⟩; exact hu h)]
                have e : s.tick nm l.d l.u K = (s, 0, (0, 0), false) := by rw [htick, tickWR, if_neg h0, eto, if_pos ht]
                rw [e]
                exact n_ret0 rfl rfl fun ids' w' hp hI' => ⟨rfl, post_res hI' rfl 0 rfl rfl rfl⟩
            · (repeat ((first | refine n_must rfl ?_ | refine n_chk (drawF_ok (by decide +kernel)) ?_ | refine n_same rfl ?_ | ((first | refine n_must ?_ ?_ | refine n_brT ?_ ?_); (focus (first | (simp [ht]; done) | (simp [ht]; omega) | (simp only [ht]; simp; done)))) | (refine n_brF ?_ ?_; (focus (first | (simp [ht]; done) | (simp [ht]; omega) | (simp only [ht]; simp; done)))) | refine n_must (by (with_reducible refine and_shape ?_) <;> kernel_rfl) ?_); (refine gs ?_)))
              have eto : toF s.me wd wu K = askF s.me (K.map (kindF true)) := by unfold toF; rw [if_pos hd, if_neg (by rintro ⟨h, _⟩; exact ht h)]
              have e : s.tick nm l.d l.u K = (s.clear nm, (askF s.me (K.map (kindF true))), (wd, wu), true) := by rw [htick, tickWR, if_neg h0, eto, if_neg ht]
              rw [e]
              refine n_callR (Y := Unit) 0 (fun _ => rgRes p o cap (s.clear nm)) (fun _ => .tup []) (fun _ => .tuple #[]) (fun _ => True) rfl rfl (fun _ => rfl) rfl rfl rfl (fun _ w1 hp1 hI1 hR => (rclear_ok hR (by omega) nm).mono fun e w' ⟨he, hf⟩ => ⟨(), he, trivial, hf⟩) ?_
              intro _ _
              (refine gs ?_)
              refine gw ?_
              exact n_ret0 rfl rfl fun ids' w' hp hI' => ⟨rfl, post_res hI' rfl 0 rfl rfl rfl⟩
        · first
          | exfalso; omega
          | have hu : 0 < wu := by omega
            (repeat ((first | refine n_must rfl ?_ | refine n_chk (drawF_ok (by decide +kernel)) ?_ | refine n_same rfl ?_ | ((first | refine n_must ?_ ?_ | refine n_brT ?_ ?_); (focus (first | (simp [hd, hu]; done) | (simp [hd, hu]; omega) | (simp only [hd, hu]; simp; done)))) | (refine n_brF ?_ ?_; (focus (first | (simp [hd, hu]; done) | (simp [hd, hu]; omega) | (simp only [hd, hu]; simp; done)))) | refine n_must (by (with_reducible refine and_shape ?_) <;> kernel_rfl) ?_); (refine gs ?_)))
            refine n_ldI (.int .i64 s.me) rfl rfl (fun _ w1 _ hI1 => load_cell aggInt (blk_at (memRes_blk (hI1.res 0 rfl rfl) 0 rfl rfl rfl) (j := 0) rfl rfl)) ?_
            (refine gs ?_)
            refine gw ?_
            refine n_sameP (.int .i64 (askF s.me (K.map (kindF false)))) rfl rfl rfl (fun _ w1 hp1 hI1 => by
              have := rAsk_ok (o := o2) (l := K.map (kindF false)) (cap := c2) (row_read (hI1.res 4 rfl rfl)) (fun x hx => hI1.resLt 4 rfl rfl x (rd_inR hx)) (by rw [List.length_map]; omega) s.me hme
              rw [List.length_map, hKl] at this
              exact this) ?_
            (refine gs ?_)
            have eto : toF s.me wd wu K = askF s.me (K.map (kindF false)) := by unfold toF; rw [if_neg hd, if_pos ⟨by decide, hu⟩]
            by_cases ht2 : askF s.me (K.map (kindF false)) < 0
            · (repeat ((first | refine n_must rfl ?_ | refine n_chk (drawF_ok (by decide +kernel)) ?_ | refine n_same rfl ?_ | ((first | refine n_must ?_ ?_ | refine n_brT ?_ ?_); (focus (first | (simp [ht2]; done) | (simp [ht2]; omega) | (simp only [ht2]; simp; done)))) | (refine n_brF ?_ ?_; (focus (first | (simp [ht2]; done) | (simp [ht2]; omega) | (simp only [ht2]; simp; done)))) | refine n_must (by (with_reducible refine and_shape ?_) <;> kernel_rfl) ?_); (refine gs ?_)))
              have e : s.tick nm l.d l.u K = (s, 0, (0, 0), false) := by rw [htick, tickWR, if_neg h0, eto, if_pos ht2]
              rw [e]
              exact n_ret0 rfl rfl fun ids' w' hp hI' => ⟨rfl, post_res hI' rfl 0 rfl rfl rfl⟩
            · (repeat ((first | refine n_must rfl ?_ | refine n_chk (drawF_ok (by decide +kernel)) ?_ | refine n_same rfl ?_ | ((first | refine n_must ?_ ?_ | refine n_brT ?_ ?_); (focus (first | (simp [ht2]; done) | (simp [ht2]; omega) | (simp only [ht2]; simp; done)))) | (refine n_brF ?_ ?_; (focus (first | (simp [ht2]; done) | (simp [ht2]; omega) | (simp only [ht2]; simp; done)))) | refine n_must (by (with_reducible refine and_shape ?_) <;> kernel_rfl) ?_); (refine gs ?_)))
              have e : s.tick nm l.d l.u K = (s.clear nm, (askF s.me (K.map (kindF false))), (wd, wu), true) := by rw [htick, tickWR, if_neg h0, eto, if_neg ht2]
              rw [e]
              refine n_callR (Y := Unit) 0 (fun _ => rgRes p o cap (s.clear nm)) (fun _ => .tup []) (fun _ => .tuple #[]) (fun _ => True) rfl rfl (fun _ => rfl) rfl rfl rfl (fun _ w1 hp1 hI1 hR => (rclear_ok hR (by omega) nm).mono fun e w' ⟨he, hf⟩ => ⟨(), he, trivial, hf⟩) ?_
              intro _ _
              (refine gs ?_)
              refine gw ?_
              exact n_ret0 rfl rfl fun ids' w' hp hI' => ⟨rfl, post_res hI' rfl 0 rfl rfl rfl⟩
end Go.Proofs.YtglafgpjgkphkaaGreatDoor
