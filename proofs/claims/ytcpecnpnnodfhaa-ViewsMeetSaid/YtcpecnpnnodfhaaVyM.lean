/- Chapter 9's law without the document's answer: ViewsRefused. -/
import Derived.Test.YtcpecnpnnodfhaaBnVj
set_option maxRecDepth 100000
set_option linter.unusedSimpArgs false
set_option linter.unusedVariables false
set_option maxHeartbeats 8000000
namespace Go.Proofs.Ytcpecnpnnodfhaa
open Go.RowKit

abbrev Tk.saidW (T : Tk) (wi : Nat) (y : Rp × (Nat → Option Addr × Nat)) (k : Nat) (d u h : Int) : Tk := { T with X := T.X.set wi (y.1.say k d u h), S := y.2 }
theorem saidW_step {n N : Nat} {T : Tk} (hT : T.ok n N) (hN : N ≤ 1000) (hO : Own T.X) {wi : Nat} {x : Rp} (hx : T.X[wi]? = some x) (S' : Nat → Option Addr × Nat) (s : Sy) :
    (T.saidW wi (x, S') (withinF s.nm 0 3).toNat (withinF s.d 0 30) (withinF s.u 0 30) (withinF s.h 0 30)).ok n (N + 1) ∧ Own (T.saidW wi (x, S') (withinF s.nm 0 3).toNat (withinF s.d 0 30) (withinF s.u 0 30) (withinF s.h 0 30)).X := by
  have b1 := within_le (x := s.nm) (show (0 : Int) ≤ 3 by omega)
  have b2 := within_le (x := s.d) (show (0 : Int) ≤ 30 by omega)
  have b3 := within_le (x := s.u) (show (0 : Int) ≤ 30 by omega)
  have b4 := within_le (x := s.h) (show (0 : Int) ≤ 30 by omega)
  exact ⟨ok_say hT hN hx (by omega) b2 b3 b4, own_say hO hx (hT.rel wi x hx).2.2.1 (by omega) b2 b3 b4⟩
theorem ok_take0 {T : Tk} {n N : Nat} {i : Nat} {x : Rp} (hT : T.ok n N) (hx : T.X[i]? = some x) {k : Int} {L : List Vw} (hr : (x.r.take k L).1 = x.r) : ({ T with X := T.X.set i (x.taken k L) } : Tk).ok n N := by
  obtain ⟨h1, h2, h3⟩ := hT
  refine ⟨by simp [h1], h2, fun j y hy => ?_⟩
  dsimp only at hy
  rw [List.getElem?_set] at hy
  split at hy
  · rename_i e
    subst e
    simp only [(List.getElem?_eq_some_iff.1 hx).1, if_true] at hy
    cases hy
    obtain ⟨a1, a2, a3, a4⟩ := h3 i x hx
    have hr' : (x.taken k L).r = x.r := hr
    have hv := (take_like a1 k L).2
    rw [hr]  at hv
    rw [hr']
    exact ⟨hv, a2, a3, a4⟩
  · exact h3 j y hy
theorem ViewsRefused_ok {rep at_ : Int} {bad : Vw} {o : Option Addr} {Y : List Sy} {cap : Nat} {w : World} (hrep : i64 rep) (hat : i64 at_) (hbv : i64 bad.ver) (hR : (syRes o Y).R w) (hY : ∀ y ∈ Y, y.good) (hl : Y.length ≤ 9223372036854775806) :
    Calls Try.prog 9 #[.int .i64 rep, .slice o Y.length cap, bad.val, .int .i64 at_] w fun e w' => e = .returned (.bool true) ∧ Frm [] w w' := by
  have hI := Inv.nil (P := Try.prog) (N := 167) (S := []) (os := []) w
  have hS1 : ∀ w1, Frm [] w w1 → (syRes o Y).R w1 := fun w1 hf => (syRes o Y).stable _ _ (fun k hk => hf.block k (rd_lt hR k hk) (by simp)) hR
  have bn := within_le (x := rep) (show (2 : Int) ≤ 8 by omega)
  obtain ⟨n, hn⟩ := Int.eq_ofNat_of_zero_le (show 0 ≤ withinF rep 2 8 by omega)
  rw [hn] at bn
  have hn2 : 2 ≤ n ∧ n ≤ 8 := by omega
  refine calls_sm (cx 167 [] [] w) (vals := [.int .i64 rep, .raw (.slice o Y.length cap), .agg bad.sv, .int .i64 at_]) mixed Try.func9 rfl rfl rfl hI rfl (st rfl ?_); conv => arg 3; whnf
  refine gw ?_
  refine n_call1 rfl fun bb => ?_
  refine n_sameP (.bool true) rfl rfl rfl (fun _ w1 hp1 hI1 => alive_ok w1) ?_; (refine gs ?_)
  refine gw ?_
  refine n_sameP (.int .i64 (n : Nat)) rfl rfl rfl (fun _ w1 hp1 hI1 => by rw [← hn]; exact within_ok rep 2 8 hrep (by omega) (by omega) (by omega) w1) ?_; (refine gs ?_)
  refine gw ?_
  refine n_callN (fun y : Nat × Option Addr × Nat × List Rp => tkRes y.1 (Tk.new y.2.1 y.2.2.1 y.2.2.2)) 41 (fun y => .raw (pV y.1)) (fun y => pV y.1) (fun y => y.2.2.2.length = n ∧ FreshX n y.2.2.2 ∧ ∃ g, y.2.1 = some ⟨g, 0, none⟩) rfl rfl rfl (fun _ => rfl) (fun w1 hI1 => begun_ok' hn2 w1) ?_
  rintro ⟨t, vo, vc, X0⟩ ⟨hX0l, hX0, gv, hgv⟩ _
  dsimp only at hX0l hX0 hgv ⊢
  have hT0 : (Tk.new vo vc X0).ok n 0 := new_tk_ok (N := 0) hn2 hX0l hX0
  have hO0 : Own (Tk.new vo vc X0).X := (fresh_own hX0).1
  have hv0 : (Tk.new vo vc X0).vo = some ⟨gv, 0, none⟩ := hgv
  generalize Tk.new vo vc X0 = T0 at hT0 hO0 hv0
  (refine gs ?_)
  refine gw ?_
  refine n_loopJ (k := 0) (σ := Nat × Tk) (fun s => [(1, .raw (.slice o Y.length cap)), (3, .int .i64 at_), (6, .ptr 0 0), (10, .int .i64 (n : Nat)), (11, .raw (pV t)), (12, .int .i64 (s.1 : Nat))]) (fun s => [⟨49, bad.sv, true⟩, ⟨41, [.res (tkRes t s.2)], true⟩]) (fun s => s.1 ≤ Y.length ∧ s.1 ≤ 200 ∧ s.2.ok n s.1 ∧ Own s.2.X ∧ s.2.vo = some ⟨gv, 0, none⟩) (fun _ => True) (fun s => Y.length - s.1) (0, T0) mixed rfl ⟨by simp, by simp, hT0, hO0, hv0⟩ (fun _ _ => rfl) (fun _ h => h) rfl (by (repeat (first | exact trivial | refine ⟨⟨rfl, rfl⟩, ?_⟩))) (fun s _ => ⟨by (repeat (first | exact trivial | refine ⟨⟨_, rfl⟩, ?_⟩)), by (repeat (first | exact trivial | refine ⟨⟨_, rfl⟩, ?_⟩))⟩) (fun s hs => ?_) (fun s hs _ => ?_)
  · obtain ⟨i, T⟩ := s
    obtain ⟨hi1, hi2, hT, hO, hvo⟩ := hs
    dsimp only at hi1 hi2 hT hO hvo ⊢
    (refine gs ?_)
    by_cases hil : i < Y.length
    · by_cases h4 : i < 200
      · have ei : IntKind.i64.wrap ((i : Int) + 1) = ((i + 1 : Nat) : Int) := by rw [w64 (by omega) (by omega)]; simp
        have h4' : (i : Int) < 200 := by omega
        have hx : Y[i]? = some Y[i] := List.getElem?_eq_getElem _
        have hg := hY _ (List.getElem_mem hil)
        generalize Y[i] = x at hx hg
        obtain ⟨ad, rfl⟩ := rd_some sy_len (by omega) hR (show 0 < Y.length by omega)
        (repeat ((first | refine n_must rfl ?_ | refine n_chk (drawF_ok (by decide +kernel)) ?_ | refine n_same rfl ?_ | ((first | refine n_must ?_ ?_ | refine n_brT ?_ ?_); (focus (first | (simp [hil, h4']; done) | (simp [hil, h4']; omega) | (simp only [hil, h4']; simp; done)))) | (refine n_brF ?_ ?_; (focus (first | (simp [hil, h4']; done) | (simp [hil, h4']; omega) | (simp only [hil, h4']; simp; done)))) | refine n_must (by (with_reducible refine and_shape ?_) <;> kernel_rfl) ?_); (refine gs ?_)))
        (refine n_ldA (.agg x.sv) rfl (by first | exact trivial | rfl) rfl (fun _ w1 _ hI1 => sy_load (hS1 _ hI1.frm) hx rfl) ?_; (refine gs ?_))
        refine gw ?_
        refine n_callR (Y := Rp × (Nat → Option Addr × Nat)) 1 (fun y => tkRes t (T.saidW (withinF x.who 0 ((n : Int) - 1)).toNat y (withinF x.nm 0 3).toNat (withinF x.d 0 30) (withinF x.u 0 30) (withinF x.h 0 30))) (fun _ => .bool true) (fun _ => .bool true) (fun y => T.X[(withinF x.who 0 ((n : Int) - 1)).toNat]? = some y.1) rfl rfl (fun _ => rfl) rfl rfl rfl (fun _ w1 _ hI1 hR1 => ?_) ?_
        · exact (step0_ok (y := ⟨0, x.who, x.a, x.nm, x.d, x.u, x.h⟩) hT (by omega) ⟨i64_0, hg.who, hg.a, hg.nm, hg.d, hg.u, hg.h⟩ (within0 _) hR1).mono fun e w' ⟨z, S', he, hz, hP⟩ => ⟨(z, S'), he, hz, hP⟩
        rintro ⟨z, S'⟩ hz
        dsimp only at hz
        obtain ⟨hT', hO'⟩ := saidW_step hT (by omega) hO hz S' x
        (refine gs ?_)
        refine gw ?_
        exact n_againJ fun ids' w' hp hI' => ⟨(i + 1, T.saidW (withinF x.who 0 ((n : Int) - 1)).toNat (z, S') (withinF x.nm 0 3).toNat (withinF x.d 0 30) (withinF x.u 0 30) (withinF x.h 0 30)), ⟨by dsimp only; omega, by dsimp only; omega, hT', hO', hvo⟩, by dsimp only; omega, (by (repeat (first | exact trivial | refine ⟨⟨rfl, rfl⟩, ?_⟩ | refine ⟨⟨rfl, congrArg (SV.int .i64) ei⟩, ?_⟩))), _, hI'⟩
      · have h4' : ¬ (i : Int) < 200 := by omega
        (repeat ((first | refine n_must rfl ?_ | refine n_chk (drawF_ok (by decide +kernel)) ?_ | refine n_same rfl ?_ | ((first | refine n_must ?_ ?_ | refine n_brT ?_ ?_); (focus (first | (simp [hil, h4']; done) | (simp [hil, h4']; omega) | (simp only [hil, h4']; simp; done)))) | (refine n_brF ?_ ?_; (focus (first | (simp [hil, h4']; done) | (simp [hil, h4']; omega) | (simp only [hil, h4']; simp; done)))) | refine n_must (by (with_reducible refine and_shape ?_) <;> kernel_rfl) ?_); (refine gs ?_)))
        exact n_exitJ fun ids' w' hp hI' => ⟨(i, T), ⟨⟨hi1, hi2, hT, hO, hvo⟩, trivial⟩, (by (repeat (first | exact trivial | refine ⟨⟨rfl, rfl⟩, ?_⟩))), [], hI'⟩
    · (repeat ((first | refine n_must rfl ?_ | refine n_chk (drawF_ok (by decide +kernel)) ?_ | refine n_same rfl ?_ | ((first | refine n_must ?_ ?_ | refine n_brT ?_ ?_); (focus (first | (simp [hil]; done) | (simp [hil]; omega) | (simp only [hil]; simp; done)))) | (refine n_brF ?_ ?_; (focus (first | (simp [hil]; done) | (simp [hil]; omega) | (simp only [hil]; simp; done)))) | refine n_must (by (with_reducible refine and_shape ?_) <;> kernel_rfl) ?_); (refine gs ?_)))
      exact n_exitJ fun ids' w' hp hI' => ⟨(i, T), ⟨⟨hi1, hi2, hT, hO, hvo⟩, trivial⟩, (by (repeat (first | exact trivial | refine ⟨⟨rfl, rfl⟩, ?_⟩))), [], hI'⟩
  obtain ⟨i1, T1⟩ := s
  obtain ⟨_, hi1, hT1, hO1, hvo1⟩ := hs
  dsimp only at hi1 hT1 hO1 hvo1 ⊢
  have hT1 : T1.ok n 200 := ⟨hT1.len, hT1.nn, fun i x hx => by obtain ⟨a, b, c, d⟩ := hT1.rel i x hx; exact ⟨a, b, c, by omega⟩⟩
  have hl1 := hT1.len
  have hx0 : T1.X[0]? = some (T1.X[0]'(by rw [hT1.len]; omega)) := List.getElem?_eq_getElem _
  generalize (T1.X[0]'(by rw [hT1.len]; omega)) = x0 at hx0
  obtain ⟨hv0, hs0, hm0, ha0⟩ := hT1.rel 0 x0 hx0
  have bb := within_le (x := bad.ver) (show (0 : Int) ≤ 1000 by omega)
  (refine gs ?_)
  refine gw ?_
  refine n_sameP (.int .i64 (withinF bad.ver 0 1000)) rfl rfl rfl (fun _ w1 hp1 hI1 => within_ok bad.ver 0 1000 hbv (by omega) (by omega) (by omega) w1) ?_; (refine gs ?_)
  refine gw ?_
  have ebv : IntKind.i64.wrap (0 - withinF bad.ver 0 1000) = -withinF bad.ver 0 1000 := by rw [w64 (by omega) (by omega)]; omega
  obtain ⟨bd, hbd⟩ : ∃ b : Vw, b = { bad with ver := IntKind.i64.wrap (0 - withinF bad.ver 0 1000) } := ⟨_, rfl⟩
  have hbr : rightB bd = false := by
    cases h : rightB bd with
    | false => rfl
    | true =>
      have := right_ver h
      rw [hbd] at this
      dsimp only at this
      omega
  (refine n_ldA (.raw (.slice (some ⟨gv, 0, none⟩) (T1).X.length (T1).vc)) rfl (by first | exact trivial | rfl) rfl (fun _ w1 _ hI1 => (by rw [← hvo1]; exact load_cell aggVp (tk_v (memRes_res (hI1.res 1 rfl rfl) 0 rfl rfl) rfl))) ?_; (refine gs ?_))
  refine gw ?_
  (refine n_ldA (.raw (pV (x0).v)) rfl (by first | exact trivial | rfl) rfl (fun _ w1 _ hI1 => load_cell aggPv (rowRes_cell (hvo1 ▸ memRes_res (hI1.res 1 rfl rfl) 1 rfl rfl) (by show (ptrs (T1).X)[0]? = _; rw [List.getElem?_map, hx0]; rfl))) ?_; (refine gs ?_))
  refine gw ?_
  have hdf := dig_four hv0 hs0
  have hx1 : T1.X[1]? = some (T1.X[1]'(by rw [hT1.len]; omega)) := List.getElem?_eq_getElem _
  generalize (T1.X[1]'(by rw [hT1.len]; omega)) = x1 at hx1
  obtain ⟨hv1, hs1, hm1, ha1⟩ := hT1.rel 1 x1 hx1
  have ho1 := (hO1 1 x1 hx1).1
  have hn1 := hv1.rn
  have r1 : RisV (digU x0.r 4) := digU_ris x0.r
  have r2 : ∀ v ∈ digU x0.r 4, rightB v = true := digU_right hO1 hx0
  have r3 : (digU x0.r 4).length ≤ 4 := digU_len x0.r 4
  have r4 : ∀ v ∈ digU x0.r 4, ∃ j, j < 4 ∧ v.nm = nmK j := digU_nms x0.r
  generalize hDL : digU x0.r 4 = L at hdf r1 r2 r3 r4
  refine n_callN (fun y : Option Addr × Nat => vRow y.1 L.length y.2 (vws L)) 49 (fun y => .raw (.slice y.1 L.length y.2)) (fun y => .slice y.1 L.length y.2) (fun y => 0 < L.length → ∃ g, y.1 = some ⟨g, 0, none⟩) rfl rfl rfl (fun _ => rfl) (fun w1 hI1 => hdf ▸ dig_row9 hv0 (by omega) (tk_res (hI1.res 1 rfl rfl) hx0)) ?_
  rintro ⟨l0, c0⟩ hg0 _
  dsimp only at hg0 ⊢
  (refine gs ?_)
  have bk := within_le (x := at_) (show (0 : Int) ≤ (L.length : Nat) by omega)
  obtain ⟨kk, hkk⟩ := Int.eq_ofNat_of_zero_le bk.1
  rw [hkk] at bk
  refine gw ?_
  refine n_sameP (.int .i64 (kk : Nat)) rfl rfl rfl (fun _ w1 hp1 hI1 => by rw [← hkk]; exact within_ok at_ 0 _ hat (by omega) (by omega) (by omega) w1) ?_; (refine gs ?_)
  refine gw ?_
  obtain ⟨itt, hitt, hpt⟩ := Option.map_eq_some_iff.1 infoVw
  simp only [Prod.mk.injEq] at hpt
  refine n_loopX [0] [⟨49, bd.sv, true⟩, ⟨41, [.res (tkRes t T1)], true⟩, ⟨49, [.res (vRow l0 L.length c0 (vws L))], true⟩, ⟨49, [.res (vRow none 0 0 [])], true⟩] rfl (fun w hI => by rw [hbd]; exact hI.addR (Frm.refl [] w) (vRow none 0 0 []) 49 true (rowRes_nil _ _ _) (by simp [rowRes]) (by simp [rowRes])) ?_
  refine n_loop (σ := Nat × Option Addr × Nat) (fun s => [(6, .ptr 0 0), (10, .int .i64 (n : Nat)), (11, .raw (pV t)), (14, .raw (.slice l0 L.length c0)), (15, .int .i64 (kk : Nat)), (16, .raw (.slice s.2.1 s.1 s.2.2)), (17, .int .i64 (s.1 : Nat))]) (fun s => [⟨49, bd.sv, true⟩, ⟨41, [.res (tkRes t T1)], true⟩, ⟨49, [.res (vRow l0 L.length c0 (vws L))], true⟩, ⟨49, [.res (vRow s.2.1 s.1 s.2.2 (vws (L.take s.1)))], true⟩]) (fun s => s.1 ≤ kk) (fun s => kk - s.1) (0, none, 0) mixed (by dsimp only; omega) (fun _ _ => rfl) rfl (by (repeat (first | exact trivial | refine ⟨⟨rfl, rfl⟩, ?_⟩))) (fun s _ => ⟨by (repeat (first | exact trivial | refine ⟨⟨_, rfl⟩, ?_⟩)), by (repeat (first | exact trivial | refine ⟨⟨_, rfl⟩, ?_⟩))⟩) fun s hs => ?_
  obtain ⟨i, oo, oc⟩ := s
  dsimp only at hs ⊢
  (refine gs ?_)
  by_cases hik : i < kk
  · have ei : IntKind.i64.wrap ((i : Int) + 1) = ((i + 1 : Nat) : Int) := by rw [w64 (by omega) (by omega)]; simp
    have hiL : i < L.length := by omega
    obtain ⟨g0, rfl⟩ := hg0 (by omega)
    have hx : L[i]? = some L[i] := List.getElem?_eq_getElem _
    have htk : L.take i ++ [L[i]] = L.take (i + 1) := by rw [List.take_add_one, hx]; rfl
    generalize L[i] = x at hx htk
    (repeat ((first | refine n_must rfl ?_ | refine n_chk (drawF_ok (by decide +kernel)) ?_ | refine n_same rfl ?_ | ((first | refine n_must ?_ ?_ | refine n_brT ?_ ?_); (focus (first | (simp [hik, hiL]; done) | (simp [hik, hiL]; omega) | (simp only [hik, hiL]; simp; done)))) | (refine n_brF ?_ ?_; (focus (first | (simp [hik, hiL]; done) | (simp [hik, hiL]; omega) | (simp only [hik, hiL]; simp; done)))) | refine n_must (by (with_reducible refine and_shape ?_) <;> kernel_rfl) ?_); (refine gs ?_)))
    (refine n_ldA (.agg x.sv) rfl (by first | exact trivial | rfl) rfl (fun _ w1 _ hI1 => load_row (l := x.l) aggView sizeView (fun j u hu => row_at vw_len (hI1.res 2 rfl rfl) hx (by have := (List.getElem?_eq_some_iff.1 hu).1; simpa using this) hu (by rw [Int.toNat_natCast, add_add]))) ?_; (refine gs ?_))
    refine gw ?_
    refine n_build1 rfl rfl elemVw rfl rfl rfl rfl rfl rfl rfl rfl rfl ?_
    (refine gs ?_)
    refine gw ?_
    refine n_append (nv := (x).l) 3 rfl rfl elemVw hitt hpt.1 hpt.2.1 hpt.2.2 rfl (by omega) rfl rfl rfl rfl rfl rfl (by omega) (by simp [Value.oneCell']) (by omega) (by omega) (show _ = vws (L.take (i + 1)) by rw [vws_add, htk]) fun g2 c2 => ?_
    (refine gs ?_)
    refine gw ?_
    exact n_again ⟨(i + 1, some ⟨g2, 0, none⟩, c2), by dsimp only; omega, by dsimp only; omega, (by (repeat (first | exact trivial | refine ⟨⟨rfl, rfl⟩, ?_⟩ | refine ⟨⟨rfl, congrArg (SV.int .i64) ei⟩, ?_⟩))), ⟨_, rfl⟩⟩
  obtain rfl : i = kk := by omega
  (repeat ((first | refine n_must rfl ?_ | refine n_chk (drawF_ok (by decide +kernel)) ?_ | refine n_same rfl ?_ | ((first | refine n_must ?_ ?_ | refine n_brT ?_ ?_); (focus (first | (simp [hik]; done) | (simp [hik]; omega) | (simp only [hik]; simp; done)))) | (refine n_brF ?_ ?_; (focus (first | (simp [hik]; done) | (simp [hik]; omega) | (simp only [hik]; simp; done)))) | refine n_must (by (with_reducible refine and_shape ?_) <;> kernel_rfl) ?_); (refine gs ?_)))
  refine n_exit rfl ?_
  (refine gs ?_)
  refine gw ?_
  refine n_build1 rfl rfl elemVw rfl rfl rfl rfl rfl rfl rfl rfl rfl ?_
  (refine gs ?_)
  refine gw ?_
  refine n_append (nv := (bd).l) 3 rfl rfl elemVw hitt hpt.1 hpt.2.1 hpt.2.2 rfl (by omega) rfl rfl rfl rfl rfl rfl (by omega) (by simp [Value.oneCell']) (by omega) (by omega) (show _ = vws (L.take i ++ [bd]) by rw [vws_add]) fun g2 c2 => ?_
  (refine gs ?_)
  refine gw ?_
  refine n_loop1 rfl fun bj => ?_
  refine n_loop (σ := Nat × Option Addr × Nat) (fun s => [(6, .ptr 0 0), (10, .int .i64 (n : Nat)), (11, .raw (pV t)), (14, .raw (.slice l0 L.length c0)), (16, .raw (.slice s.2.1 (s.1 + 1) s.2.2)), (18, .int .i64 (s.1 : Nat))]) (fun s => [⟨49, bd.sv, true⟩, ⟨41, [.res (tkRes t T1)], true⟩, ⟨49, [.res (vRow l0 L.length c0 (vws L))], true⟩, ⟨49, [.res (vRow s.2.1 (s.1 + 1) s.2.2 (vws (L.take i ++ [bd] ++ (L.take s.1).drop i)))], true⟩] ++ [⟨49, bd.sv, true⟩]) (fun s => i ≤ s.1 ∧ s.1 ≤ L.length) (fun s => L.length - s.1) (i, some ⟨g2, 0, none⟩, c2) mixed (by dsimp only; omega) (fun _ _ => rfl) (by rw [List.drop_of_length_le (by simp; omega), List.append_nil]; rfl) (by (repeat (first | exact trivial | refine ⟨⟨rfl, rfl⟩, ?_⟩))) (fun s _ => ⟨by (repeat (first | exact trivial | refine ⟨⟨_, rfl⟩, ?_⟩)), by (repeat (first | exact trivial | refine ⟨⟨_, rfl⟩, ?_⟩))⟩) fun s hs => ?_
  obtain ⟨j, po, pc⟩ := s
  dsimp only at hs ⊢
  (refine gs ?_)
  by_cases hjk : j < L.length
  · have ej : IntKind.i64.wrap ((j : Int) + 1) = ((j + 1 : Nat) : Int) := by rw [w64 (by omega) (by omega)]; simp
    obtain ⟨g0, rfl⟩ := hg0 (by omega)
    have hx : L[j]? = some L[j] := List.getElem?_eq_getElem _
    have htk : (L.take j).drop i ++ [L[j]] = (L.take (j + 1)).drop i := by rw [List.take_add_one, hx, List.drop_append_of_le_length (by simp; omega)]; rfl
    generalize L[j] = x at hx htk
    (repeat ((first | refine n_must rfl ?_ | refine n_chk (drawF_ok (by decide +kernel)) ?_ | refine n_same rfl ?_ | ((first | refine n_must ?_ ?_ | refine n_brT ?_ ?_); (focus (first | (simp [hjk]; done) | (simp [hjk]; omega) | (simp only [hjk]; simp; done)))) | (refine n_brF ?_ ?_; (focus (first | (simp [hjk]; done) | (simp [hjk]; omega) | (simp only [hjk]; simp; done)))) | refine n_must (by (with_reducible refine and_shape ?_) <;> kernel_rfl) ?_); (refine gs ?_)))
    (refine n_ldA (.agg x.sv) rfl (by first | exact trivial | rfl) rfl (fun _ w1 _ hI1 => load_row (l := x.l) aggView sizeView (fun j u hu => row_at vw_len (hI1.res 2 rfl rfl) hx (by have := (List.getElem?_eq_some_iff.1 hu).1; simpa using this) hu (by rw [Int.toNat_natCast, add_add]))) ?_; (refine gs ?_))
    refine gw ?_
    refine n_build1 rfl rfl elemVw rfl rfl rfl rfl rfl rfl rfl rfl rfl ?_
    (refine gs ?_)
    refine gw ?_
    refine n_append (nv := (x).l) 3 rfl rfl elemVw hitt hpt.1 hpt.2.1 hpt.2.2 rfl (by omega) rfl rfl rfl rfl rfl rfl (by omega) (by simp [Value.oneCell']) (by omega) (by omega) (show _ = vws (L.take i ++ [bd] ++ (L.take (j + 1)).drop i) by rw [vws_add, List.append_assoc, htk]) fun g2 c2 => ?_
    (refine gs ?_)
    refine gw ?_
    exact n_again ⟨(j + 1, some ⟨g2, 0, none⟩, c2), by dsimp only; omega, by dsimp only; omega, (by (repeat (first | exact trivial | refine ⟨⟨rfl, rfl⟩, ?_⟩ | refine ⟨⟨rfl, congrArg (SV.int .i64) ej⟩, ?_⟩))), ⟨_, rfl⟩⟩
  obtain rfl : j = L.length := by omega
  rw [List.take_length]
  (repeat ((first | refine n_must rfl ?_ | refine n_chk (drawF_ok (by decide +kernel)) ?_ | refine n_same rfl ?_ | ((first | refine n_must ?_ ?_ | refine n_brT ?_ ?_); (focus (first | (simp [hjk]; done) | (simp [hjk]; omega) | (simp only [hjk]; simp; done)))) | (refine n_brF ?_ ?_; (focus (first | (simp [hjk]; done) | (simp [hjk]; omega) | (simp only [hjk]; simp; done)))) | refine n_must (by (with_reducible refine and_shape ?_) <;> kernel_rfl) ?_); (refine gs ?_)))
  refine n_exit rfl ?_
  (refine gs ?_)
  refine gw ?_
  obtain ⟨M, hM⟩ : ∃ M : List Vw, M = L.take i ++ [bd] ++ L.drop i := ⟨_, rfl⟩
  have hMl : M.length = L.length + 1 := by rw [hM]; simp; omega
  have hbM : bd ∈ M := by rw [hM]; simp
  rw [← hM]
  have htb := take_bad (r := x1.r) (k := 0) (L := M) ⟨by omega, by omega, by omega⟩ (by omega) hbM hbr
  have htn := take_new hs1 (k := 0) (L := L) ⟨by omega, by omega, by omega⟩ r3 r1 r2 (fun e he => by rw [ho1 e he]; simp)
  have hkn : ∀ nm, lastF x1.r.All 0 nm = Vw.zero := fun nm => lastF_none fun e he h => by rw [ho1 e he] at h; simp at h
  (refine n_ldA (.raw (.slice (some ⟨gv, 0, none⟩) (T1).X.length (T1).vc)) rfl (by first | exact trivial | rfl) rfl (fun _ w1 _ hI1 => (by rw [← hvo1]; exact load_cell aggVp (tk_v (memRes_res (hI1.res 1 rfl rfl) 0 rfl rfl) rfl))) ?_; (refine gs ?_))
  refine gw ?_
  (refine n_ldA (.raw (pV (x1).v)) rfl (by first | exact trivial | rfl) rfl (fun _ w1 _ hI1 => load_cell aggPv (rowRes_cell (hvo1 ▸ memRes_res (hI1.res 1 rfl rfl) 1 rfl rfl) (by show (ptrs (T1).X)[1]? = _; rw [List.getElem?_map, hx1]; rfl))) ?_; (refine gs ?_))
  refine gw ?_
  refine n_callR (Y := Unit) 1 (fun _ => tkRes t { T1 with X := T1.X.set 1 (x1.taken 0 M) }) (fun _ => .tup [.int .i64 0, .int .i64 1]) (fun _ => .tuple #[.int .i64 0, .int .i64 1]) (fun _ => True) rfl rfl (fun _ => rfl) rfl rfl rfl (fun _ w1 _ hI1 hR1 =>
    (tk_take hT1 hR1 hx1 0 i64_0 (L := M) hMl pc (rd_of_row (hI1.res 3 rfl rfl)) (fun y hy hy2 => hI1.res_res 1 3 (by decide) rfl rfl rfl rfl y (tk_in hR1 hx1 y hy) (rd_inR hy2)) (by omega)).mono fun e w' ⟨he, hP⟩ => ⟨(), by rw [he, htb], trivial, hP⟩) ?_
  intro _ _
  have hT2 : ({ T1 with X := T1.X.set 1 (x1.taken 0 M) } : Tk).ok n 200 := ok_take0 hT1 hx1 (by rw [htb])
  have hx2 : ({ T1 with X := T1.X.set 1 (x1.taken 0 M) } : Tk).X[1]? = some (x1.taken 0 M) := List.getElem?_set_self (by rw [hl1]; omega)
  have hr2 : (x1.taken 0 M).r = x1.r := by
    show (x1.r.take 0 M).1 = _
    rw [htb]
  have hvo2 : ({ T1 with X := T1.X.set 1 (x1.taken 0 M) } : Tk).vo = some ⟨gv, 0, none⟩ := hvo1
  generalize ({ T1 with X := T1.X.set 1 (x1.taken 0 M) } : Tk) = T2 at hT2 hx2 hvo2
  generalize (x1.taken 0 M) = x2 at hx2 hr2
  have hl2 := hT2.len
  obtain ⟨hv2, hs2, hm2, ha2⟩ := hT2.rel 1 x2 hx2
  (refine gs ?_)
  refine gw ?_
  refine n_loop (σ := Nat) (fun k => [(6, .ptr 0 0), (10, .int .i64 (n : Nat)), (11, .raw (pV t)), (14, .raw (.slice l0 L.length c0)), (21, .int .i64 (k : Nat))]) (fun k => [⟨49, bd.sv, true⟩, ⟨41, [.res (tkRes t T2)], true⟩, ⟨49, [.res (vRow l0 L.length c0 (vws L))], true⟩, ⟨49, [.res (vRow po (L.length + 1) pc (vws M))], true⟩, ⟨49, bd.sv, true⟩]) (fun k => k ≤ L.length) (fun k => L.length - k) 0 mixed (by omega) (fun _ _ => rfl) rfl (by (repeat (first | exact trivial | refine ⟨⟨rfl, rfl⟩, ?_⟩))) (fun s _ => ⟨by (repeat (first | exact trivial | refine ⟨⟨_, rfl⟩, ?_⟩)), by (repeat (first | exact trivial | refine ⟨⟨_, rfl⟩, ?_⟩))⟩) fun k hk => ?_
  (refine gs ?_)
  by_cases hkl : k < L.length
  · have ek : IntKind.i64.wrap ((k : Int) + 1) = ((k + 1 : Nat) : Int) := by rw [w64 (by omega) (by omega)]; simp
    have hxk : L[k]? = some L[k] := List.getElem?_eq_getElem _
    have hrt := r2 _ (List.getElem_mem hkl)
    generalize L[k] = x at hxk hrt
    obtain ⟨g0, rfl⟩ := hg0 (by omega)
    have hxn : x.nm.size ≤ maxLen := Nat.le_trans (right_len hrt) (by decide)
    (repeat ((first | refine n_must rfl ?_ | refine n_chk (drawF_ok (by decide +kernel)) ?_ | refine n_same rfl ?_ | ((first | refine n_must ?_ ?_ | refine n_brT ?_ ?_); (focus (first | (simp [hkl]; done) | (simp [hkl]; omega) | (simp only [hkl]; simp; done)))) | (refine n_brF ?_ ?_; (focus (first | (simp [hkl]; done) | (simp [hkl]; omega) | (simp only [hkl]; simp; done)))) | refine n_must (by (with_reducible refine and_shape ?_) <;> kernel_rfl) ?_); (refine gs ?_)))
    (refine n_ldA (.raw (.slice (some ⟨gv, 0, none⟩) (T2).X.length (T2).vc)) rfl (by first | exact trivial | rfl) rfl (fun _ w1 _ hI1 => (by rw [← hvo2]; exact load_cell aggVp (tk_v (memRes_res (hI1.res 1 rfl rfl) 0 rfl rfl) rfl))) ?_; (refine gs ?_))
    refine gw ?_
    (refine n_ldA (.raw (pV (x2).v)) rfl (by first | exact trivial | rfl) rfl (fun _ w1 _ hI1 => load_cell aggPv (rowRes_cell (hvo2 ▸ memRes_res (hI1.res 1 rfl rfl) 1 rfl rfl) (by show (ptrs (T2).X)[1]? = _; rw [List.getElem?_map, hx2]; rfl))) ?_; (refine gs ?_))
    refine gw ?_
    (refine n_ldA (.str x.nm) rfl (by first | exact trivial | rfl) rfl (fun _ w1 _ hI1 => load_cell aggStr (row_at vw_len (hI1.res 2 rfl rfl) hxk (j := 0) (by omega) rfl (by rw [Int.toNat_natCast, add_add]; rfl))) ?_; (refine gs ?_))
    refine gw ?_
    refine n_callN (fun y : Nat => cellsRes y ((knownL x2.s.V x.nm n).flatMap rtL) 47) 47 (fun y => .raw (.slice (some ⟨y, 0, none⟩) n n)) (fun y => .slice (some ⟨y, 0, none⟩) n n) (fun _ => True) rfl rfl rfl (fun _ => rfl) (fun w1 hI1 => by
      have h := Known_ok (tk_res (hI1.res 1 rfl rfl) hx2) (by rw [hv2.len]; omega) x.nm hxn
      rw [hv2.len] at h
      exact h) ?_
    intro yk _ _
    have hk0 : (knownL x2.s.V x.nm n)[0]? = some ((0 : Int), (0 : Int)) := by
      rw [known_like hv2, hr2]
      unfold rKnownL rKnownF
      rw [List.getElem?_map, List.getElem?_range (by omega)]
      simp only [Option.map_some]
      rw [show lastF x1.r.All ((0 : Nat) : Int) x.nm = Vw.zero from hkn x.nm]
    have hat0 : ∀ j u, (rtL (0, 0))[j]? = some u → ((knownL x2.s.V x.nm n).flatMap rtL)[j]? = some u := fun j u hu => by
      have hj : j < 2 := (List.getElem?_eq_some_iff.1 hu).1
      have := flat_at rt_len hk0 hj
      rw [Nat.zero_mul, Nat.zero_add] at this
      rw [this]; exact hu
    generalize (knownL x2.s.V x.nm n).flatMap rtL = KL at hat0
    (refine gs ?_)
    refine gw ?_
    (refine n_ldA (.agg [.int .i64 0, .int .i64 0]) rfl (by first | exact trivial | rfl) rfl (fun _ w1 _ hI1 => load_row (l := rtL (0, 0)) aggRt9 sizeRt (fun j u hu => cellsRes_at (hI1.res 5 rfl rfl) (hat0 j u hu) (by rw [add_add]; congr 1; show (0 : Int).toNat * 2 + j = j; simp))) ?_; (refine gs ?_))
    refine gw ?_
    refine n_sameP (.bool (decide (((0 : Int), (0 : Int)) = ((0 : Int), (0 : Int))))) rfl rfl rfl (fun _ w1 hp1 hI1 => sameR_ok (0, 0) (0, 0) w1) ?_; (refine gs ?_)
    have hzz : decide (((0 : Int), (0 : Int)) = ((0 : Int), (0 : Int))) = true := decide_eq_true rfl
    (repeat ((first | refine n_must rfl ?_ | refine n_chk (drawF_ok (by decide +kernel)) ?_ | refine n_same rfl ?_ | ((first | refine n_must ?_ ?_ | refine n_brT ?_ ?_); (focus (first | (simp [hzz]; done) | (simp [hzz]; omega) | (simp only [hzz]; simp; done)))) | (refine n_brF ?_ ?_; (focus (first | (simp [hzz]; done) | (simp [hzz]; omega) | (simp only [hzz]; simp; done)))) | refine n_must (by (with_reducible refine and_shape ?_) <;> kernel_rfl) ?_); (refine gs ?_)))
    exact n_again ⟨k + 1, by omega, by omega, (by (repeat (first | exact trivial | refine ⟨⟨rfl, rfl⟩, ?_⟩ | refine ⟨⟨rfl, congrArg (SV.int .i64) ek⟩, ?_⟩))), ⟨_, rfl⟩⟩
  · obtain rfl : k = L.length := by omega
    (repeat ((first | refine n_must rfl ?_ | refine n_chk (drawF_ok (by decide +kernel)) ?_ | refine n_same rfl ?_ | ((first | refine n_must ?_ ?_ | refine n_brT ?_ ?_); (focus (first | (simp [hkl]; done) | (simp [hkl]; omega) | (simp only [hkl]; simp; done)))) | (refine n_brF ?_ ?_; (focus (first | (simp [hkl]; done) | (simp [hkl]; omega) | (simp only [hkl]; simp; done)))) | refine n_must (by (with_reducible refine and_shape ?_) <;> kernel_rfl) ?_); (refine gs ?_)))
    refine n_exit rfl ?_
    (refine gs ?_)
    refine gw ?_
    (refine n_ldA (.raw (.slice (some ⟨gv, 0, none⟩) (T2).X.length (T2).vc)) rfl (by first | exact trivial | rfl) rfl (fun _ w1 _ hI1 => (by rw [← hvo2]; exact load_cell aggVp (tk_v (memRes_res (hI1.res 1 rfl rfl) 0 rfl rfl) rfl))) ?_; (refine gs ?_))
    refine gw ?_
    (refine n_ldA (.raw (pV (x2).v)) rfl (by first | exact trivial | rfl) rfl (fun _ w1 _ hI1 => load_cell aggPv (rowRes_cell (hvo2 ▸ memRes_res (hI1.res 1 rfl rfl) 1 rfl rfl) (by show (ptrs (T2).X)[1]? = _; rw [List.getElem?_map, hx2]; rfl))) ?_; (refine gs ?_))
    refine gw ?_
    refine n_callR (Y := Unit) 1 (fun _ => tkRes t { T2 with X := T2.X.set 1 (x2.taken 0 L) }) (fun _ => .tup [.int .i64 (L.length : Nat), .int .i64 0]) (fun _ => .tuple #[.int .i64 (L.length : Nat), .int .i64 0]) (fun _ => True) rfl rfl (fun _ => rfl) rfl rfl rfl (fun _ w1 _ hI1 hR1 =>
      (tk_take hT2 hR1 hx2 0 i64_0 (L := L) rfl c0 (rd_of_row (hI1.res 2 rfl rfl)) (fun y hy hy2 => hI1.res_res 1 2 (by decide) rfl rfl rfl rfl y (tk_in hR1 hx2 y hy) (rd_inR hy2)) (by omega)).mono fun e w' ⟨he, hP⟩ => ⟨(), by rw [he, hr2, htn], trivial, hP⟩) ?_
    intro _ _
    (refine gs ?_)
    refine gw ?_
    exact n_ret0 rfl rfl fun ids' w' hp hI' => ⟨ret_bool (by simp), hI'.frm⟩
end Go.Proofs.Ytcpecnpnnodfhaa
