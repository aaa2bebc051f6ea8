/- Chapter 12's law without the document's answer: a replica ticks, and whom it asks gives (asks). -/
import Derived.Test.YtglafgpjgkphkaaGreatDoorBnGa
set_option maxRecDepth 100000
set_option linter.unusedSimpArgs false
set_option linter.unusedVariables false
set_option maxHeartbeats 8000000
namespace Go.Proofs.YtglafgpjgkphkaaGreatDoor
open Go.RowKit

def askP (P : Pl) (n wi : Nat) : Pl × Bool := match P.X[wi]? with
  | some x => if (x.tk n).2.2.2 = true then match P.X[(x.tk n).2.1.toNat]? with
      | some y => (((P.set wi (x.ticked n)).set (x.tk n).2.1.toNat (y.gave (x.tk n).2.2.1.1 (x.tk n).2.2.1.2)).set wi ((x.ticked n).got (giveF y.l.d (x.tk n).2.2.1.1) (giveF y.l.u (x.tk n).2.2.1.2)), true)
      | none => (P, true)
    else (P.set wi (x.ticked n), false)
  | none => (P, false)
theorem askP_eq {P : Pl} {n wi : Nat} {x : Pc} (hx : P.X[wi]? = some x) : askP P n wi = (if (x.tk n).2.2.2 = true then match P.X[(x.tk n).2.1.toNat]? with
      | some y => (((P.set wi (x.ticked n)).set (x.tk n).2.1.toNat (y.gave (x.tk n).2.2.1.1 (x.tk n).2.2.1.2)).set wi ((x.ticked n).got (giveF y.l.d (x.tk n).2.2.1.1) (giveF y.l.u (x.tk n).2.2.1.2)), true)
      | none => (P, true)
    else (P.set wi (x.ticked n), false)) := by unfold askP; rw [hx]
/-- Two of them have no more than a cap. -/
def Two (P : Pl) : Prop := ∀ (i j : Nat) x y, P.X[i]? = some x → P.X[j]? = some y → i ≠ j → x.l.d + x.l.u + y.l.d + y.l.u ≤ 1000
theorem rK_len (All : List (Int × Vw)) (nm : ByteArray) (n : Nat) : (rKnownL All nm n).length = n := by simp [rKnownL]
theorem give_half {x : Int} (hx : 0 ≤ x) (y : Int) : 2 * giveF x y ≤ x + 1 ∧ (0 < x → 0 < y → 0 < giveF x y) ∧ (0 ≤ y → giveF x y ≤ y) := by
  have hq : x.tdiv 2 = x / 2 := Int.tdiv_eq_ediv_of_nonneg hx
  unfold giveF
  rw [hq]; omega
theorem post_fp {b0 : Nat} {ρ ρ' : Res} {w w' : World} (hf : ∀ y ∈ ρ.fp, b0 ≤ y) (hB : b0 ≤ w.heap.size) (hP : Post ρ ρ' w w') : ∀ y ∈ ρ'.fp, b0 ≤ y := fun y hy => by
  rcases hP.2.2.1 y hy with h | h
  · exact hf y h
  · omega
theorem asks_ok {b0 n N wi : Nat} {P : Pl} {w : World} {a0 a1 a2 : Addr} (hs : Sents b0 w a0 a1 a2) (hB : b0 ≤ w.heap.size) (hb0 : ∀ y ∈ (plRes P).fp, b0 ≤ y) (hP : P.ok n N) (h2 : Two P) (hw : wi < n) (hR : (plRes P).R w) :
    Calls Tryz.prog 9 #[.slice P.o P.X.length P.cap, .int .i64 (wi : Nat)] w fun e w' => e = .returned (.tuple #[.bool true, .bool (askP P n wi).2]) ∧ Post (plRes P) (plRes (askP P n wi).1) w w' := by
  have hlen := hP.len
  have hn := hP.nn
  have hx : P.X[wi]? = some (P.X[wi]'(by rw [hlen]; exact hw)) := List.getElem?_eq_getElem _
  generalize (P.X[wi]'(by rw [hlen]; exact hw)) = x at hx
  have hxo := hP.each wi x hx
  have lo := hxo.lo
  have d0 := lo.d0
  have u0 := lo.u0
  have lsum := lo.sum
  have llim := hxo.lim
  have llh := hxo.lh
  obtain ⟨⟨k1, k2⟩, k3, k4⟩ := hxo.lk
  have hgm := hxo.gm
  obtain ⟨g, hg⟩ : ∃ g, P.o = some ⟨g, 0, none⟩ := rowRes_some' (memRes_res hR 0 rfl rfl) (by rw [hlen]; omega)
  have hnd : (x.g.m.map (·.1)).Nodup := (pl_rg hR hx).2.1.nodup
  have hsp := tick_spec hnd (d := x.l.d) (u := x.l.u) (K := rKnownL x.r.All nmA n) ⟨k1, by omega⟩ ⟨k3, by omega⟩ ⟨d0, by omega⟩ ⟨u0, by omega⟩
  have hto := toF_spec x.g.me (max 0 ((x.g.lack nmA).1 - x.l.d)) (max 0 ((x.g.lack nmA).2 - x.l.u)) (rKnownL x.r.All nmA n)
  rw [rK_len] at hto
  have e1 : IntKind.i64.wrap ((x.g.lack nmA).1 - x.l.d) = (x.g.lack nmA).1 - x.l.d := w64 (by omega) (by omega)
  have e2 : IntKind.i64.wrap ((x.g.lack nmA).2 - x.l.u) = (x.g.lack nmA).2 - x.l.u := w64 (by omega) (by omega)
  have hD0 : 0 ≤ max 0 ((x.g.lack nmA).1 - x.l.d) ∧ max 0 ((x.g.lack nmA).1 - x.l.d) ≤ 1000 := by omega
  have hU0 : 0 ≤ max 0 ((x.g.lack nmA).2 - x.l.u) ∧ max 0 ((x.g.lack nmA).2 - x.l.u) ≤ 1000 := by omega
  have hx1 : (P.set wi (x.ticked n)).X[wi]? = some (x.ticked n) := List.getElem?_set_self (by rw [hlen]; exact hw)
  have hI : Inv (cx 213 [(8, .of [(0, []), (1, []), (2, []), (3, []), (4, []), (5, []), (6, []), (7, []), (8, []), (9, []), (11, []), (10, [11]), (12, []), (13, []), (14, []), (15, [])])] (plRes P).fp w) w [0] [⟨34, [.res (plRes P)], true⟩] := (Inv.nil w).consR (by simp) hR (memRes_lt hR) (fun _ x hx => hx)
  have htk : ∀ w1, (plRes P).R w1 → Calls Tryz.prog 14 #[pV x.p, .string nmA, pV x.b, pV x.v] w1 fun e w' => e = .returned (tickV (x.tk n).2) ∧ Post (plRes P) (plRes (P.set wi (x.ticked n))) w1 w' := fun w1 hR1 => tick_pl hR1 hx (by omega) hxo.vr (by omega)
  have hask : askP P n wi = (if (x.tk n).2.2.2 = true then match P.X[(x.tk n).2.1.toNat]? with
      | some y => (((P.set wi (x.ticked n)).set (x.tk n).2.1.toNat (y.gave (x.tk n).2.2.1.1 (x.tk n).2.2.1.2)).set wi ((x.ticked n).got (giveF y.l.d (x.tk n).2.2.1.1) (giveF y.l.u (x.tk n).2.2.1.2)), true)
      | none => (P, true)
    else (P.set wi (x.ticked n), false)) := by unfold askP; rw [hx]
  have hlk : (x.ticked n).g.lack nmA = (x.tk n).1.lack nmA := rfl
  rw [hask]
  have htick : (x.tk n) = x.g.tick nmA x.l.d x.l.u (rKnownL x.r.All nmA n) := rfl
  rw [← htick] at hsp
  generalize hT : x.tk n = T at hsp htk hlk
  obtain ⟨G', to, ⟨td, tu⟩, tis⟩ := T
  dsimp only at hsp htk hlk ⊢
  obtain ⟨hme', hsp⟩ := hsp
  have hno : td = 0 → tu = 0 → to = 0 → tis = false → Calls Tryz.prog 9 #[.slice P.o P.X.length P.cap, .int .i64 (wi : Nat)] w fun e w' => e = .returned (.tuple #[.bool true, .bool false]) ∧ Post (plRes P) (plRes (P.set wi (x.ticked n))) w w' := by
    rintro rfl rfl rfl rfl
    refine calls_sm (cx 213 [(8, .of [(0, []), (1, []), (2, []), (3, []), (4, []), (5, []), (6, []), (7, []), (8, []), (9, []), (11, []), (10, [11]), (12, []), (13, []), (14, []), (15, [])])] (plRes P).fp w) (vals := [.raw (.slice P.o P.X.length P.cap), .int .i64 (wi : Nat)]) mixed Tryz.func9 rfl rfl rfl hI rfl (st rfl ?_); conv => arg 3; whnf
    rw [hg]
    refine gw ?_
    (refine n_ldA (.agg [.raw (pV x.p), .raw (pV x.b), .raw (pV x.v)]) rfl (by first | exact trivial | rfl) rfl (fun _ w1 _ hI1 => load_row (l := x.c) aggPc sizePc (fun j u hu => row_at pc_len (hg ▸ memRes_res (hI1.res 0 rfl rfl) 0 rfl rfl) hx (by have := (List.getElem?_eq_some_iff.1 hu).1; simpa using this) hu (by rw [Int.toNat_natCast, add_add]))) ?_; (refine gs ?_))
    refine gw ?_
    refine n_sameP (rtS (x.g.lack nmA)) rfl rfl rfl (fun _ w1 hp1 hI1 => lacks_pl (hI1.res 0 rfl rfl) hx) ?_; (refine gs ?_)
    refine gw ?_
    refine n_sameP (rtS (x.l.d, x.l.u)) rfl rfl rfl (fun _ w1 hp1 hI1 => rights_pl (hI1.res 0 rfl rfl) hx) ?_; (refine gs ?_)
    refine gw ?_
    refine n_callR (Y := Unit) 0 (fun _ => plRes (P.set wi (x.ticked n))) (fun _ => .tup [.int .i64 0, .agg [.int .i64 0, .int .i64 0], .bool false]) (fun _ => .tuple #[.int .i64 0, .agg #[.int .i64 0, .int .i64 0], .bool false]) (fun _ => True) rfl rfl (fun _ => rfl) rfl rfl rfl (fun _ w1 _ hI1 hR1 => (htk w1 hR1).mono fun e w' ⟨he, hP⟩ => ⟨(), he, trivial, hP⟩) ?_
    intro _ _
    (refine gs ?_)
    refine gw ?_
    refine n_sameP (.bool true) rfl rfl rfl (fun _ w1 hp1 hI1 => (same_ok (0, 0) (0, 0) w1).mono fun e w' ⟨h1, h2⟩ => ⟨by simpa using h1, h2⟩) ?_; (refine gs ?_)
    refine gw ?_
    refine n_sameP (rtS (x.l.d, x.l.u)) rfl rfl rfl (fun _ w1 hp1 hI1 => rights_pl (x := x.ticked n) (hI1.res 0 rfl rfl) hx1) ?_; (refine gs ?_)
    refine gw ?_
    refine n_sameP (.bool true) rfl rfl rfl (fun _ w1 hp1 hI1 => (same_ok (x.l.d, x.l.u) (x.l.d, x.l.u) w1).mono fun e w' ⟨h1, h2⟩ => ⟨by simpa using h1, h2⟩) ?_; (refine gs ?_)
    refine gw ?_
    exact n_ret0 rfl rfl fun ids' w' hp hI' => ⟨rfl, post_res hI' rfl 0 rfl rfl rfl⟩
  rcases hsp with ⟨_, _, hv, _⟩ | ⟨_, _, hv, _⟩ | ⟨hz, hneg, hv, hlk0⟩
  · simp only [Prod.mk.injEq] at hv
    obtain ⟨rfl, ⟨rfl, rfl⟩, rfl⟩ := hv
    rw [if_neg (by simp)]
    exact hno rfl rfl rfl rfl
  · simp only [Prod.mk.injEq] at hv
    obtain ⟨rfl, ⟨rfl, rfl⟩, rfl⟩ := hv
    rw [if_neg (by simp)]
    exact hno rfl rfl rfl rfl
  · simp only [Prod.mk.injEq] at hv
    obtain ⟨hv1, ⟨hv2, hv3⟩, rfl⟩ := hv
    rcases hto with h | ⟨j, hj1, hj2, hj3⟩
    · exact absurd h hneg
    rw [hj1] at hv1
    subst hv1
    rw [← hv2] at hD0 hz
    rw [← hv3] at hU0 hz
    have hjw : j ≠ wi := fun e => hj3 (by rw [e, hgm])
    rw [if_pos rfl, Int.toNat_natCast]
    have hy : P.X[j]? = some (P.X[j]'(by rw [hlen]; exact hj2)) := List.getElem?_eq_getElem _
    generalize (P.X[j]'(by rw [hlen]; exact hj2)) = y at hy
    rw [hy]
    dsimp only
    have hyo := hP.each j y hy
    have ylo := hyo.lo
    have yd0 := ylo.d0
    have yu0 := ylo.u0
    have ysum := ylo.sum
    have ylim := hyo.lim
    have hyh := hyo.lh
    have htwo := h2 wi j x y hx hy (fun e => hjw e.symm)
    have gd := give_le yd0 td
    have gu := give_le yu0 tu
    obtain ⟨ga, gb, gc⟩ := give_half yd0 td
    obtain ⟨gf, gg', gh⟩ := give_half yu0 tu
    have hin : (x.l.in_ (giveF y.l.d td) (giveF y.l.u tu)).2 = .ok := by
      unfold Led.in_
      rw [if_neg (by omega), if_neg (by omega), if_neg (by omega)]
    have ed : max 0 (IntKind.i64.wrap ((x.g.lack nmA).1 - x.l.d)) = td := by rw [e1]; exact hv2.symm
    have eu : max 0 (IntKind.i64.wrap ((x.g.lack nmA).2 - x.l.u)) = tu := by rw [e2]; exact hv3.symm
    generalize hrd : giveF y.l.d td = rd at gd ga gb gc hin
    generalize hru : giveF y.l.u tu = ru at gu gf gg' gh hin
    have w1 : IntKind.i64.wrap (2 * rd) = 2 * rd := w64 (by omega) (by omega)
    have w2 : IntKind.i64.wrap (2 * ru) = 2 * ru := w64 (by omega) (by omega)
    have w3 : IntKind.i64.wrap (y.l.d + 1) = y.l.d + 1 := w64 (by omega) (by omega)
    have w4 : IntKind.i64.wrap (y.l.u + 1) = y.l.u + 1 := w64 (by omega) (by omega)
    have w5 : IntKind.i64.wrap (y.l.d - rd) = y.l.d - rd := w64 (by omega) (by omega)
    have w6 : IntKind.i64.wrap (y.l.u - ru) = y.l.u - ru := w64 (by omega) (by omega)
    have hgd : (y.gave td tu).l.d = y.l.d - rd := by rw [← hrd]; rfl
    have hgu : (y.gave td tu).l.u = y.l.u - ru := by rw [← hru]; rfl
    have hy1 : (P.set wi (x.ticked n)).X[j]? = some y := by rw [List.getElem?_set_ne (fun e => hjw e.symm)]; exact hy
    have hlk1 : (x.ticked n).g.lack nmA = (0, 0) := hlk.trans hlk0
    have hg1 : (P.set wi (x.ticked n)).o = some ⟨g, 0, none⟩ := hg
    have hy2 : ((P.set wi (x.ticked n)).set j (y.gave td tu)).X[j]? = some (y.gave td tu) := List.getElem?_set_self (by simp [hlen]; exact hj2)
    have hx2 : ((P.set wi (x.ticked n)).set j (y.gave td tu)).X[wi]? = some (x.ticked n) := by rw [List.getElem?_set_ne hjw]; exact hx1
    refine calls_sm (cx 213 [(8, .of [(0, []), (1, []), (2, []), (3, []), (4, []), (5, []), (6, []), (7, []), (8, []), (9, []), (11, []), (10, [11]), (12, []), (13, []), (14, []), (15, [])])] (plRes P).fp w) (vals := [.raw (.slice P.o P.X.length P.cap), .int .i64 (wi : Nat)]) mixed Tryz.func9 rfl rfl rfl hI rfl (st rfl ?_); conv => arg 3; whnf
    rw [hg]
    refine gw ?_
    (refine n_ldA (.agg [.raw (pV x.p), .raw (pV x.b), .raw (pV x.v)]) rfl (by first | exact trivial | rfl) rfl (fun _ w1 _ hI1 => load_row (l := x.c) aggPc sizePc (fun j u hu => row_at pc_len (hg ▸ memRes_res (hI1.res 0 rfl rfl) 0 rfl rfl) hx (by have := (List.getElem?_eq_some_iff.1 hu).1; simpa using this) hu (by rw [Int.toNat_natCast, add_add]))) ?_; (refine gs ?_))
    refine gw ?_
    refine n_sameP (rtS (x.g.lack nmA)) rfl rfl rfl (fun _ w1 hp1 hI1 => lacks_pl (hI1.res 0 rfl rfl) hx) ?_; (refine gs ?_)
    refine gw ?_
    refine n_sameP (rtS (x.l.d, x.l.u)) rfl rfl rfl (fun _ w1 hp1 hI1 => rights_pl (hI1.res 0 rfl rfl) hx) ?_; (refine gs ?_)
    refine gw ?_
    refine n_callR (Y := Unit) 0 (fun _ => plRes (P.set wi (x.ticked n))) (fun _ => .tup [.int .i64 (j : Nat), .agg [.int .i64 td, .int .i64 tu], .bool true]) (fun _ => .tuple #[.int .i64 (j : Nat), .agg #[.int .i64 td, .int .i64 tu], .bool true]) (fun _ => ∀ y ∈ (plRes (P.set wi (x.ticked n))).fp, b0 ≤ y) rfl rfl (fun _ => rfl) rfl rfl rfl (fun _ w1 _ hI1 hR1 => (htk w1 hR1).mono fun e w' ⟨he, hP⟩ => ⟨(), he, post_fp hb0 (Nat.le_trans hB hI1.frm.size) hP, hP⟩) ?_
    intro _ hb1
    have dcase : (¬ 0 < y.l.d) ∨ (0 < y.l.d ∧ ¬ 0 < td) ∨ (0 < y.l.d ∧ 0 < td ∧ ¬ rd = 0) := by
      by_cases q1 : 0 < y.l.d
      · by_cases q2 : 0 < td
        · have := gb q1 q2
          exact .inr (.inr ⟨q1, q2, by omega⟩)
        · exact .inr (.inl ⟨q1, q2⟩)
      · exact .inl q1
    have ucase : (¬ 0 < y.l.u) ∨ (0 < y.l.u ∧ ¬ 0 < tu) ∨ (0 < y.l.u ∧ 0 < tu ∧ ¬ ru = 0) := by
      by_cases q1 : 0 < y.l.u
      · by_cases q2 : 0 < tu
        · have := gg' q1 q2
          exact .inr (.inr ⟨q1, q2, by omega⟩)
        · exact .inr (.inl ⟨q1, q2⟩)
      · exact .inl q1
    have hnum : (x.l.in_ rd ru).2.num = 0 := by rw [hin]; rfl
    by_cases htd : td = 0
    · have htu : ¬ tu = 0 := fun e => hz ⟨htd, e⟩
      replace dcase : (¬ 0 < y.l.d) ∨ (0 < y.l.d ∧ ¬ 0 < td) := by omega
      replace ucase : (¬ 0 < y.l.u) ∨ (0 < y.l.u ∧ 0 < tu ∧ ¬ ru = 0) := by
        rcases ucase with h | h | h
        · exact .inl h
        · omega
        · exact .inr h
      (refine gs ?_)
      (repeat ((first | refine n_must rfl ?_ | refine n_chk (drawF_ok (by decide +kernel)) ?_ | refine n_same rfl ?_ | ((first | refine n_must ?_ ?_ | refine n_brT ?_ ?_); (focus (first | (simp [ed, eu, htd, htu]; done) | (simp [ed, eu, htd, htu]; omega) | (simp only [ed, eu, htd, htu]; simp; done)))) | (refine n_brF ?_ ?_; (focus (first | (simp [ed, eu, htd, htu]; done) | (simp [ed, eu, htd, htu]; omega) | (simp only [ed, eu, htd, htu]; simp; done)))) | refine n_must (by (with_reducible refine and_shape ?_) <;> kernel_rfl) ?_); (refine gs ?_)))
      refine n_sameP (rtS (0, 0)) rfl rfl rfl (fun _ w1 hp1 hI1 => (by have h := lacks_pl (x := x.ticked n) (hI1.res 0 rfl rfl) hx1; rw [hlk1] at h; exact h)) ?_; (refine gs ?_)
      (repeat ((first | refine n_must rfl ?_ | refine n_chk (drawF_ok (by decide +kernel)) ?_ | refine n_same rfl ?_ | ((first | refine n_must ?_ ?_ | refine n_brT ?_ ?_); (focus (first | (simp [ed, eu, htd, htu]; done) | (simp [ed, eu, htd, htu]; omega) | (simp only [ed, eu, htd, htu]; simp; done)))) | (refine n_brF ?_ ?_; (focus (first | (simp [ed, eu, htd, htu]; done) | (simp [ed, eu, htd, htu]; omega) | (simp only [ed, eu, htd, htu]; simp; done)))) | refine n_must (by (with_reducible refine and_shape ?_) <;> kernel_rfl) ?_); (refine gs ?_)))
      refine n_sameP (.bool true) rfl rfl rfl (fun _ w1 hp1 hI1 => (same_ok (0, 0) (0, 0) w1).mono fun e w' ⟨h1, h2⟩ => ⟨by simpa using h1, h2⟩) ?_; (refine gs ?_)
      refine gw ?_
      (refine n_ldA (.agg [.raw (pV y.p), .raw (pV y.b), .raw (pV y.v)]) rfl (by first | exact trivial | rfl) rfl (fun _ w1 _ hI1 => load_row (l := y.c) aggPc sizePc (fun k u hu => row_at pc_len (hg1 ▸ memRes_res (hI1.res 0 rfl rfl) 0 rfl rfl) hy1 (by have := (List.getElem?_eq_some_iff.1 hu).1; simpa using this) hu (by rw [Int.toNat_natCast, add_add]))) ?_; (refine gs ?_))
      refine gw ?_
      refine n_sameP (rtS (y.l.d, y.l.u)) rfl rfl rfl (fun _ w1 hp1 hI1 => rights_pl (hI1.res 0 rfl rfl) hy1) ?_; (refine gs ?_)
      refine gw ?_
      refine n_callR (Y := Unit) 0 (fun _ => plRes ((P.set wi (x.ticked n)).set j (y.gave td tu))) (fun _ => rtS (rd, ru)) (fun _ => rtV (rd, ru)) (fun _ => ∀ z ∈ (plRes ((P.set wi (x.ticked n)).set j (y.gave td tu))).fp, b0 ≤ z) rfl rfl (fun _ => rfl) rfl rfl rfl (fun _ w1 _ hI1 hR1 => (give_pl (hs.frm hI1.frm hb0 hB) (Nat.le_trans hB hI1.frm.size) hb1 hR1 hy1 ylo (pV y.p) td tu).mono fun e w' ⟨he, hP⟩ => ⟨(), by rw [he, hrd, hru], post_fp hb1 (Nat.le_trans hB hI1.frm.size) hP, hP⟩) ?_
      intro _ hb2
      (refine gs ?_)
      refine gw ?_
      refine n_sameP (rtS (y.l.d - rd, y.l.u - ru)) rfl rfl rfl (fun _ w1 hp1 hI1 => (by have h := rights_pl (x := y.gave td tu) (hI1.res 0 rfl rfl) hy2; rw [hgd, hgu] at h; exact h)) ?_; (refine gs ?_)
      (repeat ((first | refine n_must rfl ?_ | refine n_chk (drawF_ok (by decide +kernel)) ?_ | refine n_same rfl ?_ | ((first | refine n_must ?_ ?_ | refine n_brT ?_ ?_); (focus (first | (simp [ed, eu, w1, w2, w3, w4, w5, w6]; done) | (simp [ed, eu, w1, w2, w3, w4, w5, w6]; omega) | (simp only [ed, eu, w1, w2, w3, w4, w5, w6]; simp; done)))) | (refine n_brF ?_ ?_; (focus (first | (simp [ed, eu, w1, w2, w3, w4, w5, w6]; done) | (simp [ed, eu, w1, w2, w3, w4, w5, w6]; omega) | (simp only [ed, eu, w1, w2, w3, w4, w5, w6]; simp; done)))) | refine n_must (by (with_reducible refine and_shape ?_) <;> kernel_rfl) ?_); (refine gs ?_)))
      rcases dcase with h1 | ⟨h1, h2⟩
      · rcases ucase with g1 | ⟨g1, g2, g3⟩
        · as_aux_lemma =>
          (repeat ((first | refine n_must rfl ?_ | refine n_chk (drawF_ok (by decide +kernel)) ?_ | refine n_same rfl ?_ | ((first | refine n_must ?_ ?_ | refine n_brT ?_ ?_); (focus (first | (simp [ed, eu, h1, g1]; done) | (simp [ed, eu, h1, g1]; omega) | (simp only [ed, eu, h1, g1]; simp; done)))) | (refine n_brF ?_ ?_; (focus (first | (simp [ed, eu, h1, g1]; done) | (simp [ed, eu, h1, g1]; omega) | (simp only [ed, eu, h1, g1]; simp; done)))) | refine n_must (by (with_reducible refine and_shape ?_) <;> kernel_rfl) ?_); (refine gs ?_)))
          refine n_callR (Y := Unit) 0 (fun _ => plRes (((P.set wi (x.ticked n)).set j (y.gave td tu)).set wi ((x.ticked n).got rd ru))) (fun _ => .int .i64 0) (fun _ => .int .i64 0) (fun _ => True) rfl rfl (fun _ => rfl) rfl rfl rfl (fun _ w1 _ hI1 hR1 => (in_pl (x := x.ticked n) (hs.frm hI1.frm hb0 hB) (Nat.le_trans hB hI1.frm.size) hb2 hR1 hx2 lo rd ru).mono fun e w' ⟨he, hP⟩ => ⟨(), he.trans (congrArg (fun z => Ending.returned (.int .i64 z)) hnum), trivial, hP⟩) ?_
          intro _ _
          (refine gs ?_)
          refine gw ?_
          exact n_ret0 rfl rfl fun ids' w' hp hI' => ⟨rfl, post_res hI' rfl 0 rfl rfl rfl⟩
        · as_aux_lemma =>
          (repeat ((first | refine n_must rfl ?_ | refine n_chk (drawF_ok (by decide +kernel)) ?_ | refine n_same rfl ?_ | ((first | refine n_must ?_ ?_ | refine n_brT ?_ ?_); (focus (first | (simp [ed, eu, h1, g1, g2, g3]; done) | (simp [ed, eu, h1, g1, g2, g3]; omega) | (simp only [ed, eu, h1, g1, g2, g3]; simp; done)))) | (refine n_brF ?_ ?_; (focus (first | (simp [ed, eu, h1, g1, g2, g3]; done) | (simp [ed, eu, h1, g1, g2, g3]; omega) | (simp only [ed, eu, h1, g1, g2, g3]; simp; done)))) | refine n_must (by (with_reducible refine and_shape ?_) <;> kernel_rfl) ?_); (refine gs ?_)))
          refine n_callR (Y := Unit) 0 (fun _ => plRes (((P.set wi (x.ticked n)).set j (y.gave td tu)).set wi ((x.ticked n).got rd ru))) (fun _ => .int .i64 0) (fun _ => .int .i64 0) (fun _ => True) rfl rfl (fun _ => rfl) rfl rfl rfl (fun _ w1 _ hI1 hR1 => (in_pl (x := x.ticked n) (hs.frm hI1.frm hb0 hB) (Nat.le_trans hB hI1.frm.size) hb2 hR1 hx2 lo rd ru).mono fun e w' ⟨he, hP⟩ => ⟨(), he.trans (congrArg (fun z => Ending.returned (.int .i64 z)) hnum), trivial, hP⟩) ?_
          intro _ _
          (refine gs ?_)
          refine gw ?_
          exact n_ret0 rfl rfl fun ids' w' hp hI' => ⟨rfl, post_res hI' rfl 0 rfl rfl rfl⟩
      · rcases ucase with g1 | ⟨g1, g2, g3⟩
        · as_aux_lemma =>
          (repeat ((first | refine n_must rfl ?_ | refine n_chk (drawF_ok (by decide +kernel)) ?_ | refine n_same rfl ?_ | ((first | refine n_must ?_ ?_ | refine n_brT ?_ ?_); (focus (first | (simp [ed, eu, h1, h2, g1]; done) | (simp [ed, eu, h1, h2, g1]; omega) | (simp only [ed, eu, h1, h2, g1]; simp; done)))) | (refine n_brF ?_ ?_; (focus (first | (simp [ed, eu, h1, h2, g1]; done) | (simp [ed, eu, h1, h2, g1]; omega) | (simp only [ed, eu, h1, h2, g1]; simp; done)))) | refine n_must (by (with_reducible refine and_shape ?_) <;> kernel_rfl) ?_); (refine gs ?_)))
          refine n_callR (Y := Unit) 0 (fun _ => plRes (((P.set wi (x.ticked n)).set j (y.gave td tu)).set wi ((x.ticked n).got rd ru))) (fun _ => .int .i64 0) (fun _ => .int .i64 0) (fun _ => True) rfl rfl (fun _ => rfl) rfl rfl rfl (fun _ w1 _ hI1 hR1 => (in_pl (x := x.ticked n) (hs.frm hI1.frm hb0 hB) (Nat.le_trans hB hI1.frm.size) hb2 hR1 hx2 lo rd ru).mono fun e w' ⟨he, hP⟩ => ⟨(), he.trans (congrArg (fun z => Ending.returned (.int .i64 z)) hnum), trivial, hP⟩) ?_
          intro _ _
          (refine gs ?_)
          refine gw ?_
          exact n_ret0 rfl rfl fun ids' w' hp hI' => ⟨rfl, post_res hI' rfl 0 rfl rfl rfl⟩
        · as_aux_lemma =>
          (repeat ((first | refine n_must rfl ?_ | refine n_chk (drawF_ok (by decide +kernel)) ?_ | refine n_same rfl ?_ | ((first | refine n_must ?_ ?_ | refine n_brT ?_ ?_); (focus (first | (simp [ed, eu, h1, h2, g1, g2, g3]; done) | (simp [ed, eu, h1, h2, g1, g2, g3]; omega) | (simp only [ed, eu, h1, h2, g1, g2, g3]; simp; done)))) | (refine n_brF ?_ ?_; (focus (first | (simp [ed, eu, h1, h2, g1, g2, g3]; done) | (simp [ed, eu, h1, h2, g1, g2, g3]; omega) | (simp only [ed, eu, h1, h2, g1, g2, g3]; simp; done)))) | refine n_must (by (with_reducible refine and_shape ?_) <;> kernel_rfl) ?_); (refine gs ?_)))
          refine n_callR (Y := Unit) 0 (fun _ => plRes (((P.set wi (x.ticked n)).set j (y.gave td tu)).set wi ((x.ticked n).got rd ru))) (fun _ => .int .i64 0) (fun _ => .int .i64 0) (fun _ => True) rfl rfl (fun _ => rfl) rfl rfl rfl (fun _ w1 _ hI1 hR1 => (in_pl (x := x.ticked n) (hs.frm hI1.frm hb0 hB) (Nat.le_trans hB hI1.frm.size) hb2 hR1 hx2 lo rd ru).mono fun e w' ⟨he, hP⟩ => ⟨(), he.trans (congrArg (fun z => Ending.returned (.int .i64 z)) hnum), trivial, hP⟩) ?_
          intro _ _
          (refine gs ?_)
          refine gw ?_
          exact n_ret0 rfl rfl fun ids' w' hp hI' => ⟨rfl, post_res hI' rfl 0 rfl rfl rfl⟩
    · replace dcase : (¬ 0 < y.l.d) ∨ (0 < y.l.d ∧ 0 < td ∧ ¬ rd = 0) := by
        rcases dcase with h | h | h
        · exact .inl h
        · omega
        · exact .inr h
      (refine gs ?_)
      (repeat ((first | refine n_must rfl ?_ | refine n_chk (drawF_ok (by decide +kernel)) ?_ | refine n_same rfl ?_ | ((first | refine n_must ?_ ?_ | refine n_brT ?_ ?_); (focus (first | (simp [ed, eu, htd]; done) | (simp [ed, eu, htd]; omega) | (simp only [ed, eu, htd]; simp; done)))) | (refine n_brF ?_ ?_; (focus (first | (simp [ed, eu, htd]; done) | (simp [ed, eu, htd]; omega) | (simp only [ed, eu, htd]; simp; done)))) | refine n_must (by (with_reducible refine and_shape ?_) <;> kernel_rfl) ?_); (refine gs ?_)))
      refine n_sameP (rtS (0, 0)) rfl rfl rfl (fun _ w1 hp1 hI1 => (by have h := lacks_pl (x := x.ticked n) (hI1.res 0 rfl rfl) hx1; rw [hlk1] at h; exact h)) ?_; (refine gs ?_)
      (repeat ((first | refine n_must rfl ?_ | refine n_chk (drawF_ok (by decide +kernel)) ?_ | refine n_same rfl ?_ | ((first | refine n_must ?_ ?_ | refine n_brT ?_ ?_); (focus (first | (simp [ed, eu, htd]; done) | (simp [ed, eu, htd]; omega) | (simp only [ed, eu, htd]; simp; done)))) | (refine n_brF ?_ ?_; (focus (first | (simp [ed, eu, htd]; done) | (simp [ed, eu, htd]; omega) | (simp only [ed, eu, htd]; simp; done)))) | refine n_must (by (with_reducible refine and_shape ?_) <;> kernel_rfl) ?_); (refine gs ?_)))
      refine n_sameP (.bool true) rfl rfl rfl (fun _ w1 hp1 hI1 => (same_ok (0, 0) (0, 0) w1).mono fun e w' ⟨h1, h2⟩ => ⟨by simpa using h1, h2⟩) ?_; (refine gs ?_)
      refine gw ?_
      (refine n_ldA (.agg [.raw (pV y.p), .raw (pV y.b), .raw (pV y.v)]) rfl (by first | exact trivial | rfl) rfl (fun _ w1 _ hI1 => load_row (l := y.c) aggPc sizePc (fun k u hu => row_at pc_len (hg1 ▸ memRes_res (hI1.res 0 rfl rfl) 0 rfl rfl) hy1 (by have := (List.getElem?_eq_some_iff.1 hu).1; simpa using this) hu (by rw [Int.toNat_natCast, add_add]))) ?_; (refine gs ?_))
      refine gw ?_
      refine n_sameP (rtS (y.l.d, y.l.u)) rfl rfl rfl (fun _ w1 hp1 hI1 => rights_pl (hI1.res 0 rfl rfl) hy1) ?_; (refine gs ?_)
      refine gw ?_
      refine n_callR (Y := Unit) 0 (fun _ => plRes ((P.set wi (x.ticked n)).set j (y.gave td tu))) (fun _ => rtS (rd, ru)) (fun _ => rtV (rd, ru)) (fun _ => ∀ z ∈ (plRes ((P.set wi (x.ticked n)).set j (y.gave td tu))).fp, b0 ≤ z) rfl rfl (fun _ => rfl) rfl rfl rfl (fun _ w1 _ hI1 hR1 => (give_pl (hs.frm hI1.frm hb0 hB) (Nat.le_trans hB hI1.frm.size) hb1 hR1 hy1 ylo (pV y.p) td tu).mono fun e w' ⟨he, hP⟩ => ⟨(), by rw [he, hrd, hru], post_fp hb1 (Nat.le_trans hB hI1.frm.size) hP, hP⟩) ?_
      intro _ hb2
      (refine gs ?_)
      refine gw ?_
      refine n_sameP (rtS (y.l.d - rd, y.l.u - ru)) rfl rfl rfl (fun _ w1 hp1 hI1 => (by have h := rights_pl (x := y.gave td tu) (hI1.res 0 rfl rfl) hy2; rw [hgd, hgu] at h; exact h)) ?_; (refine gs ?_)
      (repeat ((first | refine n_must rfl ?_ | refine n_chk (drawF_ok (by decide +kernel)) ?_ | refine n_same rfl ?_ | ((first | refine n_must ?_ ?_ | refine n_brT ?_ ?_); (focus (first | (simp [ed, eu, w1, w2, w3, w4, w5, w6]; done) | (simp [ed, eu, w1, w2, w3, w4, w5, w6]; omega) | (simp only [ed, eu, w1, w2, w3, w4, w5, w6]; simp; done)))) | (refine n_brF ?_ ?_; (focus (first | (simp [ed, eu, w1, w2, w3, w4, w5, w6]; done) | (simp [ed, eu, w1, w2, w3, w4, w5, w6]; omega) | (simp only [ed, eu, w1, w2, w3, w4, w5, w6]; simp; done)))) | refine n_must (by (with_reducible refine and_shape ?_) <;> kernel_rfl) ?_); (refine gs ?_)))
      rcases dcase with h1 | ⟨h1, h2, h3⟩
      · rcases ucase with g1 | ⟨g1, g2⟩ | ⟨g1, g2, g3⟩
        · as_aux_lemma =>
          (repeat ((first | refine n_must rfl ?_ | refine n_chk (drawF_ok (by decide +kernel)) ?_ | refine n_same rfl ?_ | ((first | refine n_must ?_ ?_ | refine n_brT ?_ ?_); (focus (first | (simp [ed, eu, h1, g1]; done) | (simp [ed, eu, h1, g1]; omega) | (simp only [ed, eu, h1, g1]; simp; done)))) | (refine n_brF ?_ ?_; (focus (first | (simp [ed, eu, h1, g1]; done) | (simp [ed, eu, h1, g1]; omega) | (simp only [ed, eu, h1, g1]; simp; done)))) | refine n_must (by (with_reducible refine and_shape ?_) <;> kernel_rfl) ?_); (refine gs ?_)))
          refine n_callR (Y := Unit) 0 (fun _ => plRes (((P.set wi (x.ticked n)).set j (y.gave td tu)).set wi ((x.ticked n).got rd ru))) (fun _ => .int .i64 0) (fun _ => .int .i64 0) (fun _ => True) rfl rfl (fun _ => rfl) rfl rfl rfl (fun _ w1 _ hI1 hR1 => (in_pl (x := x.ticked n) (hs.frm hI1.frm hb0 hB) (Nat.le_trans hB hI1.frm.size) hb2 hR1 hx2 lo rd ru).mono fun e w' ⟨he, hP⟩ => ⟨(), he.trans (congrArg (fun z => Ending.returned (.int .i64 z)) hnum), trivial, hP⟩) ?_
          intro _ _
          (refine gs ?_)
          refine gw ?_
          exact n_ret0 rfl rfl fun ids' w' hp hI' => ⟨rfl, post_res hI' rfl 0 rfl rfl rfl⟩
        · as_aux_lemma =>
          (repeat ((first | refine n_must rfl ?_ | refine n_chk (drawF_ok (by decide +kernel)) ?_ | refine n_same rfl ?_ | ((first | refine n_must ?_ ?_ | refine n_brT ?_ ?_); (focus (first | (simp [ed, eu, h1, g1, g2]; done) | (simp [ed, eu, h1, g1, g2]; omega) | (simp only [ed, eu, h1, g1, g2]; simp; done)))) | (refine n_brF ?_ ?_; (focus (first | (simp [ed, eu, h1, g1, g2]; done) | (simp [ed, eu, h1, g1, g2]; omega) | (simp only [ed, eu, h1, g1, g2]; simp; done)))) | refine n_must (by (with_reducible refine and_shape ?_) <;> kernel_rfl) ?_); (refine gs ?_)))
          refine n_callR (Y := Unit) 0 (fun _ => plRes (((P.set wi (x.ticked n)).set j (y.gave td tu)).set wi ((x.ticked n).got rd ru))) (fun _ => .int .i64 0) (fun _ => .int .i64 0) (fun _ => True) rfl rfl (fun _ => rfl) rfl rfl rfl (fun _ w1 _ hI1 hR1 => (in_pl (x := x.ticked n) (hs.frm hI1.frm hb0 hB) (Nat.le_trans hB hI1.frm.size) hb2 hR1 hx2 lo rd ru).mono fun e w' ⟨he, hP⟩ => ⟨(), he.trans (congrArg (fun z => Ending.returned (.int .i64 z)) hnum), trivial, hP⟩) ?_
          intro _ _
          (refine gs ?_)
          refine gw ?_
          exact n_ret0 rfl rfl fun ids' w' hp hI' => ⟨rfl, post_res hI' rfl 0 rfl rfl rfl⟩
        · as_aux_lemma =>
          (repeat ((first | refine n_must rfl ?_ | refine n_chk (drawF_ok (by decide +kernel)) ?_ | refine n_same rfl ?_ | ((first | refine n_must ?_ ?_ | refine n_brT ?_ ?_); (focus (first | (simp [ed, eu, h1, g1, g2, g3]; done) | (simp [ed, eu, h1, g1, g2, g3]; omega) | (simp only [ed, eu, h1, g1, g2, g3]; simp; done)))) | (refine n_brF ?_ ?_; (focus (first | (simp [ed, eu, h1, g1, g2, g3]; done) | (simp [ed, eu, h1, g1, g2, g3]; omega) | (simp only [ed, eu, h1, g1, g2, g3]; simp; done)))) | refine n_must (by (with_reducible refine and_shape ?_) <;> kernel_rfl) ?_); (refine gs ?_)))
          refine n_callR (Y := Unit) 0 (fun _ => plRes (((P.set wi (x.ticked n)).set j (y.gave td tu)).set wi ((x.ticked n).got rd ru))) (fun _ => .int .i64 0) (fun _ => .int .i64 0) (fun _ => True) rfl rfl (fun _ => rfl) rfl rfl rfl (fun _ w1 _ hI1 hR1 => (in_pl (x := x.ticked n) (hs.frm hI1.frm hb0 hB) (Nat.le_trans hB hI1.frm.size) hb2 hR1 hx2 lo rd ru).mono fun e w' ⟨he, hP⟩ => ⟨(), he.trans (congrArg (fun z => Ending.returned (.int .i64 z)) hnum), trivial, hP⟩) ?_
          intro _ _
          (refine gs ?_)
          refine gw ?_
          exact n_ret0 rfl rfl fun ids' w' hp hI' => ⟨rfl, post_res hI' rfl 0 rfl rfl rfl⟩
      · rcases ucase with g1 | ⟨g1, g2⟩ | ⟨g1, g2, g3⟩
        · as_aux_lemma =>
          (repeat ((first | refine n_must rfl ?_ | refine n_chk (drawF_ok (by decide +kernel)) ?_ | refine n_same rfl ?_ | ((first | refine n_must ?_ ?_ | refine n_brT ?_ ?_); (focus (first | (simp [ed, eu, h1, h2, h3, g1]; done) | (simp [ed, eu, h1, h2, h3, g1]; omega) | (simp only [ed, eu, h1, h2, h3, g1]; simp; done)))) | (refine n_brF ?_ ?_; (focus (first | (simp [ed, eu, h1, h2, h3, g1]; done) | (simp [ed, eu, h1, h2, h3, g1]; omega) | (simp only [ed, eu, h1, h2, h3, g1]; simp; done)))) | refine n_must (by (with_reducible refine and_shape ?_) <;> kernel_rfl) ?_); (refine gs ?_)))
          refine n_callR (Y := Unit) 0 (fun _ => plRes (((P.set wi (x.ticked n)).set j (y.gave td tu)).set wi ((x.ticked n).got rd ru))) (fun _ => .int .i64 0) (fun _ => .int .i64 0) (fun _ => True) rfl rfl (fun _ => rfl) rfl rfl rfl (fun _ w1 _ hI1 hR1 => (in_pl (x := x.ticked n) (hs.frm hI1.frm hb0 hB) (Nat.le_trans hB hI1.frm.size) hb2 hR1 hx2 lo rd ru).mono fun e w' ⟨he, hP⟩ => ⟨(), he.trans (congrArg (fun z => Ending.returned (.int .i64 z)) hnum), trivial, hP⟩) ?_
          intro _ _
          (refine gs ?_)
          refine gw ?_
          exact n_ret0 rfl rfl fun ids' w' hp hI' => ⟨rfl, post_res hI' rfl 0 rfl rfl rfl⟩
        · as_aux_lemma =>
          (repeat ((first | refine n_must rfl ?_ | refine n_chk (drawF_ok (by decide +kernel)) ?_ | refine n_same rfl ?_ | ((first | refine n_must ?_ ?_ | refine n_brT ?_ ?_); (focus (first | (simp [ed, eu, h1, h2, h3, g1, g2]; done) | (simp [ed, eu, h1, h2, h3, g1, g2]; omega) | (simp only [ed, eu, h1, h2, h3, g1, g2]; simp; done)))) | (refine n_brF ?_ ?_; (focus (first | (simp [ed, eu, h1, h2, h3, g1, g2]; done) | (simp [ed, eu, h1, h2, h3, g1, g2]; omega) | (simp only [ed, eu, h1, h2, h3, g1, g2]; simp; done)))) | refine n_must (by (with_reducible refine and_shape ?_) <;> kernel_rfl) ?_); (refine gs ?_)))
          refine n_callR (Y := Unit) 0 (fun _ => plRes (((P.set wi (x.ticked n)).set j (y.gave td tu)).set wi ((x.ticked n).got rd ru))) (fun _ => .int .i64 0) (fun _ => .int .i64 0) (fun _ => True) rfl rfl (fun _ => rfl) rfl rfl rfl (fun _ w1 _ hI1 hR1 => (in_pl (x := x.ticked n) (hs.frm hI1.frm hb0 hB) (Nat.le_trans hB hI1.frm.size) hb2 hR1 hx2 lo rd ru).mono fun e w' ⟨he, hP⟩ => ⟨(), he.trans (congrArg (fun z => Ending.returned (.int .i64 z)) hnum), trivial, hP⟩) ?_
          intro _ _
          (refine gs ?_)
          refine gw ?_
          exact n_ret0 rfl rfl fun ids' w' hp hI' => ⟨rfl, post_res hI' rfl 0 rfl rfl rfl⟩
        · as_aux_lemma =>
          (repeat ((first | refine n_must rfl ?_ | refine n_chk (drawF_ok (by decide +kernel)) ?_ | refine n_same rfl ?_ | ((first | refine n_must ?_ ?_ | refine n_brT ?_ ?_); (focus (first | (simp [ed, eu, h1, h2, h3, g1, g2, g3]; done) | (simp [ed, eu, h1, h2, h3, g1, g2, g3]; omega) | (simp only [ed, eu, h1, h2, h3, g1, g2, g3]; simp; done)))) | (refine n_brF ?_ ?_; (focus (first | (simp [ed, eu, h1, h2, h3, g1, g2, g3]; done) | (simp [ed, eu, h1, h2, h3, g1, g2, g3]; omega) | (simp only [ed, eu, h1, h2, h3, g1, g2, g3]; simp; done)))) | refine n_must (by (with_reducible refine and_shape ?_) <;> kernel_rfl) ?_); (refine gs ?_)))
          refine n_callR (Y := Unit) 0 (fun _ => plRes (((P.set wi (x.ticked n)).set j (y.gave td tu)).set wi ((x.ticked n).got rd ru))) (fun _ => .int .i64 0) (fun _ => .int .i64 0) (fun _ => True) rfl rfl (fun _ => rfl) rfl rfl rfl (fun _ w1 _ hI1 hR1 => (in_pl (x := x.ticked n) (hs.frm hI1.frm hb0 hB) (Nat.le_trans hB hI1.frm.size) hb2 hR1 hx2 lo rd ru).mono fun e w' ⟨he, hP⟩ => ⟨(), he.trans (congrArg (fun z => Ending.returned (.int .i64 z)) hnum), trivial, hP⟩) ?_
          intro _ _
          (refine gs ?_)
          refine gw ?_
          exact n_ret0 rfl rfl fun ids' w' hp hI' => ⟨rfl, post_res hI' rfl 0 rfl rfl rfl⟩
end Go.Proofs.YtglafgpjgkphkaaGreatDoor
