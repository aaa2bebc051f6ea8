/- Chapter 12's law without the document's answer: GossipConserves walked. -/
import Derived.Test.YtglafgpjgkphkaaGreatDoorBnGb
set_option maxRecDepth 100000
set_option linter.unusedSimpArgs false
set_option linter.unusedVariables false
set_option maxHeartbeats 16000000
namespace Go.Proofs.YtglafgpjgkphkaaGreatDoor
open Go.RowKit

theorem n_within12 {N : Nat} {os : List (Nat × Odr)} {S : List Nat} {w0 : World} {Q : SExit → Fr → Mem → List Nat → World → Prop} {ids : List Nat} {fr : Fr} {mem : Mem} {todo : List Task} {x lo hi : Int} {dst : Option Nat} (hd : dstOk (cx N os S w0) dst = true) (hx : i64 x) (hlo : 0 ≤ lo) (hle : lo ≤ hi) (hhi : hi ≤ 4611686018427387904)
    (hk : satS (cx N os S w0) Q ⟨putF dst (.int .i64 (withinF x lo hi)) fr, mem, todo⟩ ids) : satN (cx N os S w0) Q (.call 6 [.int .i64 x, .int .i64 lo, .int .i64 hi] dst ⟨fr, mem, todo⟩) ids :=
  n_sameP (vs := [.int .i64 x, .int .i64 lo, .int .i64 hi]) (v := .int .i64 (withinF x lo hi)) (.int .i64 (withinF x lo hi)) hd rfl rfl (fun _ w1 _ _ => within_ok x lo hi hx hlo hle hhi w1) hk
theorem GossipConserves_ok {b0 : Nat} {w : World} {a0 a1 a2 : Addr} (hs : Sents b0 w a0 a1 a2) (hB : b0 ≤ w.heap.size) {n0 d0 u0 : Int} (hn0 : i64 n0) (hd0 : i64 d0) (hu0 : i64 u0) {o : Option Addr} {Y : List Ty} {cap : Nat} (hR : (tyRes o Y).R w) (hY : ∀ y ∈ Y, y.good) (hl : Y.length ≤ 9223372036854775807) :
    Calls Tryz.prog 3 #[.int .i64 n0, .int .i64 d0, .int .i64 u0, .slice o Y.length cap] w fun e w' => e = .returned (.bool true) ∧ Frm [] w w' := by
  have hI := Inv.nil (P := Tryz.prog) (N := 139) (S := []) (os := [(18, .of [(0, []), (1, []), (2, []), (3, []), (4, []), (5, []), (6, []), (8, []), (9, []), (7, [9, 4]), (10, [4]), (11, []), (12, [])])]) w
  have hS1 : ∀ w1, Frm [] w w1 → (tyRes o Y).R w1 := fun w1 hf => (tyRes o Y).stable _ _ (fun k hk => hf.block k (rd_lt hR k hk) (by simp)) hR
  have bn := within_le (x := n0) (show (2 : Int) ≤ 8 by omega)
  obtain ⟨n, hn⟩ := Int.eq_ofNat_of_zero_le (show 0 ≤ withinF n0 2 8 by omega)
  rw [hn] at bn
  have hn2 : 2 ≤ n ∧ n ≤ 8 := by omega
  have bd := within_le (x := d0) (show (0 : Int) ≤ 500 by omega)
  have bu := within_le (x := u0) (show (0 : Int) ≤ 500 by omega)
  generalize hD : withinF d0 0 500 = D at bd
  generalize hU : withinF u0 0 500 = U at bu
  refine calls_sm (cx 139 [(18, .of [(0, []), (1, []), (2, []), (3, []), (4, []), (5, []), (6, []), (8, []), (9, []), (7, [9, 4]), (10, [4]), (11, []), (12, [])])] [] w) (vals := [.int .i64 n0, .int .i64 d0, .int .i64 u0, .raw (.slice o Y.length cap)]) mixed Tryz.func3 rfl rfl rfl hI rfl (st rfl ?_); conv => arg 3; whnf
  refine gw ?_
  refine n_sameP (.lit true) rfl rfl rfl (fun _ w1 hp1 hI1 => alive_ok (hs.frm hI1.frm (by simp) hB) (Nat.le_trans hB hI1.frm.size)) ?_; (refine gs ?_)
  refine gw ?_
  refine n_sameP (.int .i64 (n : Nat)) rfl rfl rfl (fun _ w1 hp1 hI1 => by rw [← hn]; exact within_ok n0 2 8 hn0 (by omega) (by omega) (by omega) w1) ?_; (refine gs ?_)
  refine gw ?_
  refine n_sameP (.int .i64 D) rfl rfl rfl (fun _ w1 hp1 hI1 => by rw [← hD]; exact within_ok d0 0 500 hd0 (by omega) (by omega) (by omega) w1) ?_; (refine gs ?_)
  refine gw ?_
  refine n_sameP (.int .i64 U) rfl rfl rfl (fun _ w1 hp1 hI1 => by rw [← hU]; exact within_ok u0 0 500 hu0 (by omega) (by omega) (by omega) w1) ?_; (refine gs ?_)
  refine gw ?_
  refine n_callN (Y := Pl) (fun P => plRes P) 34 (fun P => .raw (.slice P.o P.X.length P.cap)) (fun P => .slice P.o P.X.length P.cap) (fun P => Begun P n D U) rfl rfl rfl (fun _ => rfl) (fun w1 hI1 => begun_ok (hs.frm hI1.frm (by simp) hB) (Nat.le_trans hB hI1.frm.size) hn2 bd.1 bu.1 (by omega)) ?_
  intro P0 hP0 hf0
  obtain ⟨hX0, ⟨g, hg⟩, _⟩ := id hP0
  have hC0 := begun_cv hP0 hn2 bd.1 bu.1 (by omega) (fun y hy => Nat.le_trans hB (hf0 y hy))
  obtain ⟨o0, cap0, X0⟩ := P0
  dsimp only at hX0 hg hC0
  subst hg
  dsimp only
  (refine gs ?_)
  refine gw ?_
  refine n_nilSl rfl rfl Tryz.underlying25 rfl rfl ?_
  (refine gs ?_)
  refine gw ?_
  refine n_loop1 rfl fun q => ?_
  refine n_frX 11 1 q rfl rfl rfl ?_
  refine n_loopX [] [⟨34, [.res (plRes ⟨some ⟨g, 0, none⟩, cap0, X0⟩)], true⟩, ⟨27, [.res (cellsRes q ((List.replicate 8 (0 : Int)).map intV) 27)], true⟩] rfl (fun w hI => by
    rw [List.append_nil]
    exact hI.asCells 1 rfl rfl rfl rfl) ?_
  refine n_loop (σ := Nat × Pl × List Int) (fun s => [(0, .int .i64 (n : Nat)), (1, .int .i64 D), (2, .int .i64 U), (3, .raw (.slice o Y.length cap)), (10, .raw (.slice (some ⟨g, 0, none⟩) X0.length cap0)), (11, .raw (pV q)), (12, .int .i64 (s.1 : Nat))]) (fun s => [⟨34, [.res (plRes s.2.1)], true⟩, ⟨27, [.res (cellsRes q (s.2.2.map intV) 27)], true⟩]) (fun s => s.1 ≤ Y.length ∧ s.1 ≤ 200 ∧ Cv b0 n D U (some ⟨g, 0, none⟩) cap0 s.1 s.2.1 s.2.2) (fun s => Y.length - s.1) (0, ⟨some ⟨g, 0, none⟩, cap0, X0⟩, List.replicate 8 0) mixed ⟨by simp, by simp, hC0⟩ (fun _ _ => rfl) rfl (by (repeat (first | exact trivial | refine ⟨⟨rfl, rfl⟩, ?_⟩))) (fun s _ => ⟨by (repeat (first | exact trivial | refine ⟨⟨_, rfl⟩, ?_⟩)), by (repeat (first | exact trivial | refine ⟨⟨_, rfl⟩, ?_⟩))⟩) fun s hs => ?_
  obtain ⟨i, P, Nd⟩ := s
  obtain ⟨hi1, hi2, hC⟩ := hs
  dsimp only at hi1 hi2 hC ⊢
  have hlen := hC.ok.len
  have hpo := hC.po
  have hpc := hC.pc
  have hpl : P.X.length = X0.length := by rw [hlen, hX0]
  (refine gs ?_)
  by_cases hil : i < Y.length
  · by_cases h4 : i < 200
    · have ei : IntKind.i64.wrap ((i : Int) + 1) = ((i + 1 : Nat) : Int) := by rw [w64 (by omega) (by omega)]; simp
      have h4' : (i : Int) < 200 := by omega
      have hx : Y[i]? = some Y[i] := List.getElem?_eq_getElem _
      have hgx := hY _ (List.getElem_mem hil)
      generalize Y[i] = x at hx hgx
      obtain ⟨ad, rfl⟩ := rd_some ty_len (by omega) hR (show 0 < Y.length by omega)
      have bw := within_le (x := x.who) (show (0 : Int) ≤ (n : Int) - 1 by omega)
      obtain ⟨wi, hwi⟩ := Int.eq_ofNat_of_zero_le bw.1
      rw [hwi] at bw
      have hnn : IntKind.i64.wrap ((n : Int) - 1) = (n : Int) - 1 := w64 (by omega) (by omega)
      have hwn : wi < n := by omega
      have hyX : P.X[wi]? = some (P.X[wi]'(by omega)) := List.getElem?_eq_getElem _
      generalize (P.X[wi]'(by omega)) = y at hyX
      have hnl := hC.nl
      have gtl : ∀ (L : List Int), wi < L.length → L[wi]? = some (L.getD wi 0) := fun L h => by rw [List.getD_eq_getElem?_getD, List.getElem?_eq_getElem h]; rfl
      have hgetN : Nd[wi]? = some (Nd.getD wi 0) := by rw [List.getD_eq_getElem?_getD, List.getElem?_eq_getElem (by omega)]; rfl
      have hnbw := hC.nb (Nd.getD wi 0) (List.mem_of_getElem? hgetN)
      have ea : IntKind.i64.wrap (Nd.getD wi 0 + 1) = Nd.getD wi 0 + 1 := w64 (by omega) (by omega)
      have es : IntKind.i64.wrap (Nd.getD wi 0 - 1) = Nd.getD wi 0 - 1 := w64 (by omega) (by omega)
      have hset : ∀ v : Int, (Nd.map intV).take wi ++ [intV v] ++ (Nd.map intV).drop (wi + 1) = (Nd.set wi v).map intV := fun v => map_set (by omega)
      have bk := within_le (x := x.k) (show (0 : Int) ≤ 2 by omega)
      have hkc : withinF x.k 0 2 = 0 ∨ withinF x.k 0 2 = 1 ∨ withinF x.k 0 2 = 2 := by omega
      (repeat ((first | refine n_must rfl ?_ | refine n_chk (drawF_ok (by decide +kernel)) ?_ | refine n_same rfl ?_ | ((first | refine n_must ?_ ?_ | refine n_brT ?_ ?_); (focus (first | (simp [hil, h4']; done) | (simp [hil, h4']; omega) | (simp only [hil, h4']; simp; done)))) | (refine n_brF ?_ ?_; (focus (first | (simp [hil, h4']; done) | (simp [hil, h4']; omega) | (simp only [hil, h4']; simp; done)))) | refine n_must (by (with_reducible refine and_shape ?_) <;> kernel_rfl) ?_); (refine gs ?_)))
      (refine n_ldA (.agg x.sv) rfl (by first | exact trivial | rfl) rfl (fun _ w1 _ hI1 => ty_load (hS1 _ hI1.frm) hx rfl) ?_; (refine gs ?_))
      refine gw ?_
      refine n_sameP (.int .i64 (wi : Nat)) rfl rfl rfl (fun _ w1 hp1 hI1 => by rw [hnn, ← hwi]; exact within_ok x.who 0 _ hgx.who (by omega) (by omega) (by omega) w1) ?_; (refine gs ?_)
      refine gw ?_
      rcases hkc with hk | hk | hk
      · refine n_sameP (.int .i64 0) rfl rfl rfl (fun _ w1 hp1 hI1 => (by have h := within_ok x.k 0 2 hgx.k (by omega) (by omega) (by omega) w1; rw [hk] at h; exact h)) ?_; (refine gs ?_)
        refine gw ?_
        have b3 := within_le (x := x.d) (show (0 : Int) ≤ 300 by omega)
        have b4 := within_le (x := x.u) (show (0 : Int) ≤ 300 by omega)
        iterate 14 (all_goals try first | (refine n_must (by simp; omega) ?_; (refine gs ?_)) | (refine n_must rfl ?_; (refine gs ?_)) | (refine n_chk (drawF_ok (by decide +kernel)) ?_; (refine gs ?_)) | (refine n_same rfl ?_; (refine gs ?_)) | (refine n_both ?_ ?_ <;> (refine gs ?_)) | (refine n_within12 rfl (by first | exact hgx.d | exact hgx.u) (by omega) (by omega) (by omega) ?_; (refine gs ?_)) | (refine n_ldA (.raw (pV y.p)) rfl (by first | exact trivial | rfl) rfl (fun _ w1 _ hI1 => load_cell aggGp (row_at pc_len (hpo ▸ memRes_res (hI1.res 0 rfl rfl) 0 rfl rfl) hyX (j := 0) (by omega) rfl (by rw [Int.toNat_natCast, add_add]; rfl))) ?_; (refine gs ?_)))
        generalize withinF x.d 0 300 = vd at b3
        generalize withinF x.u 0 300 = vu at b4
        refine n_callR (Y := Unit) 0 (fun _ => plRes (P.set wi (y.need vd vu))) (fun _ => .tup []) (fun _ => .tuple #[]) (fun _ => Cv b0 n D U (some ⟨g, 0, none⟩) cap0 (i + 1) (P.set wi (y.need vd vu)) (Nd.set wi (Nd.getD wi 0 + 1))) rfl rfl (fun _ => rfl) rfl rfl rfl (fun _ w1 _ hI1 hR1 => ?_) ?_
        · exact (need_pl hR1 hyX vd vu).mono fun e w' ⟨he, hP⟩ => ⟨(), he, cv_need hC hyX (by omega) (by omega) (post_fp hC.fp (Nat.le_trans hB hI1.frm.size) hP), hP⟩
        intro _ hC2
        generalize P.set wi (y.need vd vu) = P2 at hC2
        (refine gs ?_)
        refine gw ?_
        (refine n_ldA (.int .i64 (Nd.getD wi 0)) rfl (by first | exact trivial | rfl) rfl (fun _ w1 _ hI1 => load_cell aggInt (cellsRes_at (hI1.res 1 rfl rfl) (j := wi) (by rw [List.getElem?_map, hgetN]; rfl) (by rw [Int.toNat_natCast, Nat.mul_one]))) ?_; (refine gs ?_))
        refine gw ?_
        refine n_storeA (n := q) (off := wi) (k := 1) (l := Nd.map intV) (v := .int .i64 (Nd.getD wi 0 + 1)) 1 (cellsRes q (((Nd.set wi (Nd.getD wi 0 + 1))).map intV) 27) (((Nd.set wi (Nd.getD wi 0 + 1))).map intV) rfl rfl rfl (by rw [Int.toNat_natCast, Nat.mul_one, add_mk]) rfl (congrArg (fun z => some (Value.int .i64 z)) ea) sizeInt rfl rfl rfl rfl rfl (by simp [cellsRes]) (fun w h => h) (by rw [List.length_map]; omega) (hset _) (fun _ _ _ _ h => h) (fun _ h => h) ?_
        (refine gs ?_)
        refine gw ?_
        have hlen2 := hC2.ok.len
        have hpo2 := hC2.po
        have htd2 := hC2.td
        have htu2 := hC2.tu
        have hp2 : ∀ z ∈ (P2).X, (0 ≤ z.l.d ∧ z.l.d ≤ 1000) ∧ 0 ≤ z.l.u ∧ z.l.u ≤ 1000 := fun z hz => by
          obtain ⟨j, hj⟩ := List.mem_iff_getElem?.1 hz
          have h := hC2.ok.each j z hj
          have h1 := h.lo.d0
          have h2 := h.lo.u0
          have h3 := h.lo.sum
          have h4 := h.lim
          have h5 := h.lh
          omega
        have hX2 : (P2).X.length = n := hlen2
        have htold := hC2.told
        have hnl2 := hC2.nl
        have hnb2 := hC2.nb
        refine gw ?_
        refine n_loop1 rfl fun tb => ?_
        refine n_loop (σ := Nat) (fun k => [(0, .int .i64 (n : Nat)), (1, .int .i64 D), (2, .int .i64 U), (3, .raw (.slice (some ad) Y.length cap)), (10, .raw (.slice (some ⟨g, 0, none⟩) X0.length cap0)), (11, .raw (pV q)), (12, .int .i64 (i : Nat)), (14, .int .i64 (wi : Nat)), (15, (.lit true)), (17, .int .i64 (totT (fun x => x.l.d) (P2).X k)), (18, .int .i64 (totT (fun x => x.l.u) (P2).X k)), (19, .int .i64 (k : Nat))]) (fun _ => [⟨34, [.res (plRes P2)], true⟩, ⟨27, [.res (cellsRes q (((Nd.set wi (Nd.getD wi 0 + 1))).map intV) 27)], true⟩, ⟨29, x.sv, true⟩]) (fun k => k ≤ n) (fun k => n - k) 0 mixed (by omega) (fun _ _ => rfl) rfl (by (repeat (first | exact trivial | refine ⟨⟨rfl, rfl⟩, ?_⟩))) (fun s _ => ⟨by (repeat (first | exact trivial | refine ⟨⟨_, rfl⟩, ?_⟩)), by (repeat (first | exact trivial | refine ⟨⟨_, rfl⟩, ?_⟩))⟩) fun k hk => ?_
        (refine gs ?_)
        by_cases hkn : k < n
        · have ek : IntKind.i64.wrap ((k : Int) + 1) = ((k + 1 : Nat) : Int) := by rw [w64 (by omega) (by omega)]; simp
          have hz : (P2).X[k]? = some ((P2).X[k]'(by omega)) := List.getElem?_eq_getElem _
          have hzm := hp2 _ (List.getElem_mem (show k < (P2).X.length by omega))
          generalize ((P2).X[k]'(by omega)) = z at hz hzm
          have b1 := totT_bound (f := fun x => x.l.d) (fun x hx => (hp2 x hx).1) k
          have b2 := totT_bound (f := fun x => x.l.u) (fun x hx => (hp2 x hx).2) k
          have s1 : IntKind.i64.wrap (totT (fun x => x.l.d) (P2).X k + z.l.d) = totT (fun x => x.l.d) (P2).X (k + 1) := by rw [totT_next hz]; exact w64 (by omega) (by omega)
          have s2 : IntKind.i64.wrap (totT (fun x => x.l.u) (P2).X k + z.l.u) = totT (fun x => x.l.u) (P2).X (k + 1) := by rw [totT_next hz]; exact w64 (by omega) (by omega)
          (repeat ((first | refine n_must rfl ?_ | refine n_chk (drawF_ok (by decide +kernel)) ?_ | refine n_same rfl ?_ | ((first | refine n_must ?_ ?_ | refine n_brT ?_ ?_); (focus (first | (simp [hkn]; done) | (simp [hkn]; omega) | (simp only [hkn]; simp; done)))) | (refine n_brF ?_ ?_; (focus (first | (simp [hkn]; done) | (simp [hkn]; omega) | (simp only [hkn]; simp; done)))) | refine n_must (by (with_reducible refine and_shape ?_) <;> kernel_rfl) ?_); (refine gs ?_)))
          (refine n_ldA (.raw (pV z.b)) rfl (by first | exact trivial | rfl) rfl (fun _ w1 _ hI1 => load_cell aggLp (row_at pc_len (hpo2 ▸ memRes_res (hI1.res 0 rfl rfl) 0 rfl rfl) hz (j := 1) (by omega) rfl (by rw [Int.toNat_natCast, add_add]; rfl))) ?_; (refine gs ?_))
          refine gw ?_
          refine n_sameP (rtS (z.l.d, z.l.u)) rfl rfl rfl (fun _ w1 hp1 hI1 => rights_pl (hI1.res 0 rfl rfl) hz) ?_; (refine gs ?_)
          refine gw ?_
          (refine n_ldA (.raw (pV z.b)) rfl (by first | exact trivial | rfl) rfl (fun _ w1 _ hI1 => load_cell aggLp (row_at pc_len (hpo2 ▸ memRes_res (hI1.res 0 rfl rfl) 0 rfl rfl) hz (j := 1) (by omega) rfl (by rw [Int.toNat_natCast, add_add]; rfl))) ?_; (refine gs ?_))
          refine gw ?_
          refine n_sameP (rtS (z.l.d, z.l.u)) rfl rfl rfl (fun _ w1 hp1 hI1 => rights_pl (hI1.res 0 rfl rfl) hz) ?_; (refine gs ?_)
          refine gw ?_
          exact n_again ⟨k + 1, by omega, by omega, (by (repeat (first | exact trivial | refine ⟨⟨rfl, rfl⟩, ?_⟩ | refine ⟨⟨rfl, congrArg (SV.int .i64) ek⟩, ?_⟩ | refine ⟨⟨rfl, congrArg (SV.int .i64) s1⟩, ?_⟩ | refine ⟨⟨rfl, congrArg (SV.int .i64) s2⟩, ?_⟩))), ⟨_, rfl⟩⟩
        · obtain rfl : k = n := by omega
          have t1 : totT (fun x => x.l.d) (P2).X k = D := by rw [← hX2, totT_all]; exact htd2
          have t2 : totT (fun x => x.l.u) (P2).X k = U := by rw [← hX2, totT_all]; exact htu2
          rw [t1, t2]
          have hwX : (P2).X[wi]? = some ((P2).X[wi]'(by omega)) := List.getElem?_eq_getElem _
          have hw0 := (htold wi _ hwX).1
          have hgt : ((Nd.set wi (Nd.getD wi 0 + 1)))[wi]? = some (((Nd.set wi (Nd.getD wi 0 + 1))).getD wi 0) := gtl _ (by rw [hnl2]; omega)
          generalize ((Nd.set wi (Nd.getD wi 0 + 1))).getD wi 0 = nw at hw0 hgt
          have hw0' : ¬ nw < 0 := by omega
          (repeat ((first | refine n_must rfl ?_ | refine n_chk (drawF_ok (by decide +kernel)) ?_ | refine n_same rfl ?_ | ((first | refine n_must ?_ ?_ | refine n_brT ?_ ?_); (focus (first | (simp [hkn]; done) | (simp [hkn]; omega) | (simp only [hkn]; simp; done)))) | (refine n_brF ?_ ?_; (focus (first | (simp [hkn]; done) | (simp [hkn]; omega) | (simp only [hkn]; simp; done)))) | refine n_must (by (with_reducible refine and_shape ?_) <;> kernel_rfl) ?_); (refine gs ?_)))
          refine n_exit rfl ?_
          (refine gs ?_)
          refine gw ?_
          (refine n_ldA (.int .i64 nw) rfl (by first | exact trivial | rfl) rfl (fun _ w1 _ hI1 => load_cell aggInt (cellsRes_at (hI1.res 1 rfl rfl) (j := wi) (by rw [List.getElem?_map, hgt]; rfl) (by rw [Int.toNat_natCast, Nat.mul_one]))) ?_; (refine gs ?_))
          (repeat ((first | refine n_must rfl ?_ | refine n_chk (drawF_ok (by decide +kernel)) ?_ | refine n_same rfl ?_ | ((first | refine n_must ?_ ?_ | refine n_brT ?_ ?_); (focus (first | (simp [hw0']; done) | (simp [hw0']; omega) | (simp only [hw0']; simp; done)))) | (refine n_brF ?_ ?_; (focus (first | (simp [hw0']; done) | (simp [hw0']; omega) | (simp only [hw0']; simp; done)))) | refine n_must (by (with_reducible refine and_shape ?_) <;> kernel_rfl) ?_); (refine gs ?_)))
          exact n_again ⟨(i + 1, P2, (Nd.set wi (Nd.getD wi 0 + 1))), ⟨by dsimp only; omega, by dsimp only; omega, hC2⟩, by dsimp only; omega, (by (repeat (first | exact trivial | refine ⟨⟨rfl, rfl⟩, ?_⟩ | refine ⟨⟨rfl, congrArg (SV.int .i64) ei⟩, ?_⟩))), ⟨_, rfl⟩⟩
      · refine n_sameP (.int .i64 1) rfl rfl rfl (fun _ w1 hp1 hI1 => (by have h := within_ok x.k 0 2 hgx.k (by omega) (by omega) (by omega) w1; rw [hk] at h; exact h)) ?_; (refine gs ?_)
        refine gw ?_
        refine n_callR (Y := Unit) 0 (fun _ => plRes (askP P n wi).1) (fun _ => .tup [.bool true, .bool (askP P n wi).2]) (fun _ => .tuple #[.bool true, .bool (askP P n wi).2]) (fun _ => Cv b0 n D U (some ⟨g, 0, none⟩) cap0 (i + 1) (askP P n wi).1 (if (askP P n wi).2 = true then Nd.set wi (Nd.getD wi 0 - 1) else Nd)) rfl rfl (fun _ => rfl) rfl rfl rfl (fun _ w1 _ hI1 hR1 => ?_) ?_
        · have h := asks_ok (hs.frm hI1.frm (by simp) hB) (Nat.le_trans hB hI1.frm.size) hC.fp hC.ok (two_of hC.ok (by rw [hC.td, hC.tu]; omega)) hwn hR1
          rw [hpo, hpl, hpc] at h
          exact h.mono fun e w' ⟨he, hP⟩ => ⟨(), he, cv_ask hC hwn (by omega) (ask_cap.trans hpc) (pl_nd hR1) (post_fp hC.fp (Nat.le_trans hB hI1.frm.size) hP), hP⟩
        intro _ hC2
        cases ha : (askP P n wi).2 with
        | true =>
          rw [ha, if_pos rfl] at hC2
          generalize (askP P n wi).1 = P2 at hC2
          (refine gs ?_)
          refine gw ?_
          (refine n_ldA (.int .i64 (Nd.getD wi 0)) rfl (by first | exact trivial | rfl) rfl (fun _ w1 _ hI1 => load_cell aggInt (cellsRes_at (hI1.res 1 rfl rfl) (j := wi) (by rw [List.getElem?_map, hgetN]; rfl) (by rw [Int.toNat_natCast, Nat.mul_one]))) ?_; (refine gs ?_))
          refine gw ?_
          refine n_storeA (n := q) (off := wi) (k := 1) (l := Nd.map intV) (v := .int .i64 (Nd.getD wi 0 - 1)) 1 (cellsRes q (((Nd.set wi (Nd.getD wi 0 - 1))).map intV) 27) (((Nd.set wi (Nd.getD wi 0 - 1))).map intV) rfl rfl rfl (by rw [Int.toNat_natCast, Nat.mul_one, add_mk]) rfl (congrArg (fun z => some (Value.int .i64 z)) es) sizeInt rfl rfl rfl rfl rfl (by simp [cellsRes]) (fun w h => h) (by rw [List.length_map]; omega) (hset _) (fun _ _ _ _ h => h) (fun _ h => h) ?_
          (refine gs ?_)
          refine gw ?_
          have hlen2 := hC2.ok.len
          have hpo2 := hC2.po
          have htd2 := hC2.td
          have htu2 := hC2.tu
          have hp2 : ∀ z ∈ (P2).X, (0 ≤ z.l.d ∧ z.l.d ≤ 1000) ∧ 0 ≤ z.l.u ∧ z.l.u ≤ 1000 := fun z hz => by
            obtain ⟨j, hj⟩ := List.mem_iff_getElem?.1 hz
            have h := hC2.ok.each j z hj
            have h1 := h.lo.d0
            have h2 := h.lo.u0
            have h3 := h.lo.sum
            have h4 := h.lim
            have h5 := h.lh
            omega
          have hX2 : (P2).X.length = n := hlen2
          have htold := hC2.told
          have hnl2 := hC2.nl
          have hnb2 := hC2.nb
          refine gw ?_
          refine n_loop1 rfl fun tb => ?_
          refine n_loop (σ := Nat) (fun k => [(0, .int .i64 (n : Nat)), (1, .int .i64 D), (2, .int .i64 U), (3, .raw (.slice (some ad) Y.length cap)), (10, .raw (.slice (some ⟨g, 0, none⟩) X0.length cap0)), (11, .raw (pV q)), (12, .int .i64 (i : Nat)), (14, .int .i64 (wi : Nat)), (15, (.bool true)), (17, .int .i64 (totT (fun x => x.l.d) (P2).X k)), (18, .int .i64 (totT (fun x => x.l.u) (P2).X k)), (19, .int .i64 (k : Nat))]) (fun _ => [⟨34, [.res (plRes P2)], true⟩, ⟨27, [.res (cellsRes q (((Nd.set wi (Nd.getD wi 0 - 1))).map intV) 27)], true⟩, ⟨29, x.sv, true⟩]) (fun k => k ≤ n) (fun k => n - k) 0 mixed (by omega) (fun _ _ => rfl) rfl (by (repeat (first | exact trivial | refine ⟨⟨rfl, rfl⟩, ?_⟩))) (fun s _ => ⟨by (repeat (first | exact trivial | refine ⟨⟨_, rfl⟩, ?_⟩)), by (repeat (first | exact trivial | refine ⟨⟨_, rfl⟩, ?_⟩))⟩) fun k hk => ?_
          (refine gs ?_)
          by_cases hkn : k < n
          · have ek : IntKind.i64.wrap ((k : Int) + 1) = ((k + 1 : Nat) : Int) := by rw [w64 (by omega) (by omega)]; simp
            have hz : (P2).X[k]? = some ((P2).X[k]'(by omega)) := List.getElem?_eq_getElem _
            have hzm := hp2 _ (List.getElem_mem (show k < (P2).X.length by omega))
            generalize ((P2).X[k]'(by omega)) = z at hz hzm
            have b1 := totT_bound (f := fun x => x.l.d) (fun x hx => (hp2 x hx).1) k
            have b2 := totT_bound (f := fun x => x.l.u) (fun x hx => (hp2 x hx).2) k
            have s1 : IntKind.i64.wrap (totT (fun x => x.l.d) (P2).X k + z.l.d) = totT (fun x => x.l.d) (P2).X (k + 1) := by rw [totT_next hz]; exact w64 (by omega) (by omega)
            have s2 : IntKind.i64.wrap (totT (fun x => x.l.u) (P2).X k + z.l.u) = totT (fun x => x.l.u) (P2).X (k + 1) := by rw [totT_next hz]; exact w64 (by omega) (by omega)
            (repeat ((first | refine n_must rfl ?_ | refine n_chk (drawF_ok (by decide +kernel)) ?_ | refine n_same rfl ?_ | ((first | refine n_must ?_ ?_ | refine n_brT ?_ ?_); (focus (first | (simp [hkn]; done) | (simp [hkn]; omega) | (simp only [hkn]; simp; done)))) | (refine n_brF ?_ ?_; (focus (first | (simp [hkn]; done) | (simp [hkn]; omega) | (simp only [hkn]; simp; done)))) | refine n_must (by (with_reducible refine and_shape ?_) <;> kernel_rfl) ?_); (refine gs ?_)))
            (refine n_ldA (.raw (pV z.b)) rfl (by first | exact trivial | rfl) rfl (fun _ w1 _ hI1 => load_cell aggLp (row_at pc_len (hpo2 ▸ memRes_res (hI1.res 0 rfl rfl) 0 rfl rfl) hz (j := 1) (by omega) rfl (by rw [Int.toNat_natCast, add_add]; rfl))) ?_; (refine gs ?_))
            refine gw ?_
            refine n_sameP (rtS (z.l.d, z.l.u)) rfl rfl rfl (fun _ w1 hp1 hI1 => rights_pl (hI1.res 0 rfl rfl) hz) ?_; (refine gs ?_)
            refine gw ?_
            (refine n_ldA (.raw (pV z.b)) rfl (by first | exact trivial | rfl) rfl (fun _ w1 _ hI1 => load_cell aggLp (row_at pc_len (hpo2 ▸ memRes_res (hI1.res 0 rfl rfl) 0 rfl rfl) hz (j := 1) (by omega) rfl (by rw [Int.toNat_natCast, add_add]; rfl))) ?_; (refine gs ?_))
            refine gw ?_
            refine n_sameP (rtS (z.l.d, z.l.u)) rfl rfl rfl (fun _ w1 hp1 hI1 => rights_pl (hI1.res 0 rfl rfl) hz) ?_; (refine gs ?_)
            refine gw ?_
            exact n_again ⟨k + 1, by omega, by omega, (by (repeat (first | exact trivial | refine ⟨⟨rfl, rfl⟩, ?_⟩ | refine ⟨⟨rfl, congrArg (SV.int .i64) ek⟩, ?_⟩ | refine ⟨⟨rfl, congrArg (SV.int .i64) s1⟩, ?_⟩ | refine ⟨⟨rfl, congrArg (SV.int .i64) s2⟩, ?_⟩))), ⟨_, rfl⟩⟩
          · obtain rfl : k = n := by omega
            have t1 : totT (fun x => x.l.d) (P2).X k = D := by rw [← hX2, totT_all]; exact htd2
            have t2 : totT (fun x => x.l.u) (P2).X k = U := by rw [← hX2, totT_all]; exact htu2
            rw [t1, t2]
            have hwX : (P2).X[wi]? = some ((P2).X[wi]'(by omega)) := List.getElem?_eq_getElem _
            have hw0 := (htold wi _ hwX).1
            have hgt : ((Nd.set wi (Nd.getD wi 0 - 1)))[wi]? = some (((Nd.set wi (Nd.getD wi 0 - 1))).getD wi 0) := gtl _ (by rw [hnl2]; omega)
            generalize ((Nd.set wi (Nd.getD wi 0 - 1))).getD wi 0 = nw at hw0 hgt
            have hw0' : ¬ nw < 0 := by omega
            (repeat ((first | refine n_must rfl ?_ | refine n_chk (drawF_ok (by decide +kernel)) ?_ | refine n_same rfl ?_ | ((first | refine n_must ?_ ?_ | refine n_brT ?_ ?_); (focus (first | (simp [hkn]; done) | (simp [hkn]; omega) | (simp only [hkn]; simp; done)))) | (refine n_brF ?_ ?_; (focus (first | (simp [hkn]; done) | (simp [hkn]; omega) | (simp only [hkn]; simp; done)))) | refine n_must (by (with_reducible refine and_shape ?_) <;> kernel_rfl) ?_); (refine gs ?_)))
            refine n_exit rfl ?_
            (refine gs ?_)
            refine gw ?_
            (refine n_ldA (.int .i64 nw) rfl (by first | exact trivial | rfl) rfl (fun _ w1 _ hI1 => load_cell aggInt (cellsRes_at (hI1.res 1 rfl rfl) (j := wi) (by rw [List.getElem?_map, hgt]; rfl) (by rw [Int.toNat_natCast, Nat.mul_one]))) ?_; (refine gs ?_))
            (repeat ((first | refine n_must rfl ?_ | refine n_chk (drawF_ok (by decide +kernel)) ?_ | refine n_same rfl ?_ | ((first | refine n_must ?_ ?_ | refine n_brT ?_ ?_); (focus (first | (simp [hw0']; done) | (simp [hw0']; omega) | (simp only [hw0']; simp; done)))) | (refine n_brF ?_ ?_; (focus (first | (simp [hw0']; done) | (simp [hw0']; omega) | (simp only [hw0']; simp; done)))) | refine n_must (by (with_reducible refine and_shape ?_) <;> kernel_rfl) ?_); (refine gs ?_)))
            exact n_again ⟨(i + 1, P2, (Nd.set wi (Nd.getD wi 0 - 1))), ⟨by dsimp only; omega, by dsimp only; omega, hC2⟩, by dsimp only; omega, (by (repeat (first | exact trivial | refine ⟨⟨rfl, rfl⟩, ?_⟩ | refine ⟨⟨rfl, congrArg (SV.int .i64) ei⟩, ?_⟩))), ⟨_, rfl⟩⟩
        | false =>
          rw [ha, if_neg (by simp)] at hC2
          generalize (askP P n wi).1 = P2 at hC2
          (refine gs ?_)
          have hlen2 := hC2.ok.len
          have hpo2 := hC2.po
          have htd2 := hC2.td
          have htu2 := hC2.tu
          have hp2 : ∀ z ∈ (P2).X, (0 ≤ z.l.d ∧ z.l.d ≤ 1000) ∧ 0 ≤ z.l.u ∧ z.l.u ≤ 1000 := fun z hz => by
            obtain ⟨j, hj⟩ := List.mem_iff_getElem?.1 hz
            have h := hC2.ok.each j z hj
            have h1 := h.lo.d0
            have h2 := h.lo.u0
            have h3 := h.lo.sum
            have h4 := h.lim
            have h5 := h.lh
            omega
          have hX2 : (P2).X.length = n := hlen2
          have htold := hC2.told
          have hnl2 := hC2.nl
          have hnb2 := hC2.nb
          refine gw ?_
          refine n_loop1 rfl fun tb => ?_
          refine n_loop (σ := Nat) (fun k => [(0, .int .i64 (n : Nat)), (1, .int .i64 D), (2, .int .i64 U), (3, .raw (.slice (some ad) Y.length cap)), (10, .raw (.slice (some ⟨g, 0, none⟩) X0.length cap0)), (11, .raw (pV q)), (12, .int .i64 (i : Nat)), (14, .int .i64 (wi : Nat)), (15, (.bool true)), (17, .int .i64 (totT (fun x => x.l.d) (P2).X k)), (18, .int .i64 (totT (fun x => x.l.u) (P2).X k)), (19, .int .i64 (k : Nat))]) (fun _ => [⟨34, [.res (plRes P2)], true⟩, ⟨27, [.res (cellsRes q ((Nd).map intV) 27)], true⟩, ⟨29, x.sv, true⟩]) (fun k => k ≤ n) (fun k => n - k) 0 mixed (by omega) (fun _ _ => rfl) rfl (by (repeat (first | exact trivial | refine ⟨⟨rfl, rfl⟩, ?_⟩))) (fun s _ => ⟨by (repeat (first | exact trivial | refine ⟨⟨_, rfl⟩, ?_⟩)), by (repeat (first | exact trivial | refine ⟨⟨_, rfl⟩, ?_⟩))⟩) fun k hk => ?_
          (refine gs ?_)
          by_cases hkn : k < n
          · have ek : IntKind.i64.wrap ((k : Int) + 1) = ((k + 1 : Nat) : Int) := by rw [w64 (by omega) (by omega)]; simp
            have hz : (P2).X[k]? = some ((P2).X[k]'(by omega)) := List.getElem?_eq_getElem _
            have hzm := hp2 _ (List.getElem_mem (show k < (P2).X.length by omega))
            generalize ((P2).X[k]'(by omega)) = z at hz hzm
            have b1 := totT_bound (f := fun x => x.l.d) (fun x hx => (hp2 x hx).1) k
            have b2 := totT_bound (f := fun x => x.l.u) (fun x hx => (hp2 x hx).2) k
            have s1 : IntKind.i64.wrap (totT (fun x => x.l.d) (P2).X k + z.l.d) = totT (fun x => x.l.d) (P2).X (k + 1) := by rw [totT_next hz]; exact w64 (by omega) (by omega)
            have s2 : IntKind.i64.wrap (totT (fun x => x.l.u) (P2).X k + z.l.u) = totT (fun x => x.l.u) (P2).X (k + 1) := by rw [totT_next hz]; exact w64 (by omega) (by omega)
            (repeat ((first | refine n_must rfl ?_ | refine n_chk (drawF_ok (by decide +kernel)) ?_ | refine n_same rfl ?_ | ((first | refine n_must ?_ ?_ | refine n_brT ?_ ?_); (focus (first | (simp [hkn]; done) | (simp [hkn]; omega) | (simp only [hkn]; simp; done)))) | (refine n_brF ?_ ?_; (focus (first | (simp [hkn]; done) | (simp [hkn]; omega) | (simp only [hkn]; simp; done)))) | refine n_must (by (with_reducible refine and_shape ?_) <;> kernel_rfl) ?_); (refine gs ?_)))
            (refine n_ldA (.raw (pV z.b)) rfl (by first | exact trivial | rfl) rfl (fun _ w1 _ hI1 => load_cell aggLp (row_at pc_len (hpo2 ▸ memRes_res (hI1.res 0 rfl rfl) 0 rfl rfl) hz (j := 1) (by omega) rfl (by rw [Int.toNat_natCast, add_add]; rfl))) ?_; (refine gs ?_))
            refine gw ?_
            refine n_sameP (rtS (z.l.d, z.l.u)) rfl rfl rfl (fun _ w1 hp1 hI1 => rights_pl (hI1.res 0 rfl rfl) hz) ?_; (refine gs ?_)
            refine gw ?_
            (refine n_ldA (.raw (pV z.b)) rfl (by first | exact trivial | rfl) rfl (fun _ w1 _ hI1 => load_cell aggLp (row_at pc_len (hpo2 ▸ memRes_res (hI1.res 0 rfl rfl) 0 rfl rfl) hz (j := 1) (by omega) rfl (by rw [Int.toNat_natCast, add_add]; rfl))) ?_; (refine gs ?_))
            refine gw ?_
            refine n_sameP (rtS (z.l.d, z.l.u)) rfl rfl rfl (fun _ w1 hp1 hI1 => rights_pl (hI1.res 0 rfl rfl) hz) ?_; (refine gs ?_)
            refine gw ?_
            exact n_again ⟨k + 1, by omega, by omega, (by (repeat (first | exact trivial | refine ⟨⟨rfl, rfl⟩, ?_⟩ | refine ⟨⟨rfl, congrArg (SV.int .i64) ek⟩, ?_⟩ | refine ⟨⟨rfl, congrArg (SV.int .i64) s1⟩, ?_⟩ | refine ⟨⟨rfl, congrArg (SV.int .i64) s2⟩, ?_⟩))), ⟨_, rfl⟩⟩
          · obtain rfl : k = n := by omega
            have t1 : totT (fun x => x.l.d) (P2).X k = D := by rw [← hX2, totT_all]; exact htd2
            have t2 : totT (fun x => x.l.u) (P2).X k = U := by rw [← hX2, totT_all]; exact htu2
            rw [t1, t2]
            have hwX : (P2).X[wi]? = some ((P2).X[wi]'(by omega)) := List.getElem?_eq_getElem _
            have hw0 := (htold wi _ hwX).1
            have hgt : (Nd)[wi]? = some ((Nd).getD wi 0) := gtl _ (by rw [hnl2]; omega)
            generalize (Nd).getD wi 0 = nw at hw0 hgt
            have hw0' : ¬ nw < 0 := by omega
            (repeat ((first | refine n_must rfl ?_ | refine n_chk (drawF_ok (by decide +kernel)) ?_ | refine n_same rfl ?_ | ((first | refine n_must ?_ ?_ | refine n_brT ?_ ?_); (focus (first | (simp [hkn]; done) | (simp [hkn]; omega) | (simp only [hkn]; simp; done)))) | (refine n_brF ?_ ?_; (focus (first | (simp [hkn]; done) | (simp [hkn]; omega) | (simp only [hkn]; simp; done)))) | refine n_must (by (with_reducible refine and_shape ?_) <;> kernel_rfl) ?_); (refine gs ?_)))
            refine n_exit rfl ?_
            (refine gs ?_)
            refine gw ?_
            (refine n_ldA (.int .i64 nw) rfl (by first | exact trivial | rfl) rfl (fun _ w1 _ hI1 => load_cell aggInt (cellsRes_at (hI1.res 1 rfl rfl) (j := wi) (by rw [List.getElem?_map, hgt]; rfl) (by rw [Int.toNat_natCast, Nat.mul_one]))) ?_; (refine gs ?_))
            (repeat ((first | refine n_must rfl ?_ | refine n_chk (drawF_ok (by decide +kernel)) ?_ | refine n_same rfl ?_ | ((first | refine n_must ?_ ?_ | refine n_brT ?_ ?_); (focus (first | (simp [hw0']; done) | (simp [hw0']; omega) | (simp only [hw0']; simp; done)))) | (refine n_brF ?_ ?_; (focus (first | (simp [hw0']; done) | (simp [hw0']; omega) | (simp only [hw0']; simp; done)))) | refine n_must (by (with_reducible refine and_shape ?_) <;> kernel_rfl) ?_); (refine gs ?_)))
            exact n_again ⟨(i + 1, P2, Nd), ⟨by dsimp only; omega, by dsimp only; omega, hC2⟩, by dsimp only; omega, (by (repeat (first | exact trivial | refine ⟨⟨rfl, rfl⟩, ?_⟩ | refine ⟨⟨rfl, congrArg (SV.int .i64) ei⟩, ?_⟩))), ⟨_, rfl⟩⟩
      · refine n_sameP (.int .i64 2) rfl rfl rfl (fun _ w1 hp1 hI1 => (by have h := within_ok x.k 0 2 hgx.k (by omega) (by omega) (by omega) w1; rw [hk] at h; exact h)) ?_; (refine gs ?_)
        refine gw ?_
        refine n_callR (Y := Unit) 0 (fun _ => plRes (spreadP P wi)) (fun _ => .bool true) (fun _ => .bool true) (fun _ => Cv b0 n D U (some ⟨g, 0, none⟩) cap0 (i + 1) (spreadP P wi) Nd) rfl rfl (fun _ => rfl) rfl rfl rfl (fun _ w1 _ hI1 hR1 => ?_) ?_
        · have h := spread_ok (b0 := b0) hC.ok (by omega) hwn hR1
          rw [hpo, hpl, hpc] at h
          exact h.mono fun e w' ⟨he, hP⟩ => ⟨(), he, cv_spread hC (by omega) hwn (spread_cap.trans hpc) (post_fp hC.fp (Nat.le_trans hB hI1.frm.size) hP), hP⟩
        intro _ hC2
        generalize spreadP P wi = P2 at hC2
        (refine gs ?_)
        have hlen2 := hC2.ok.len
        have hpo2 := hC2.po
        have htd2 := hC2.td
        have htu2 := hC2.tu
        have hp2 : ∀ z ∈ (P2).X, (0 ≤ z.l.d ∧ z.l.d ≤ 1000) ∧ 0 ≤ z.l.u ∧ z.l.u ≤ 1000 := fun z hz => by
          obtain ⟨j, hj⟩ := List.mem_iff_getElem?.1 hz
          have h := hC2.ok.each j z hj
          have h1 := h.lo.d0
          have h2 := h.lo.u0
          have h3 := h.lo.sum
          have h4 := h.lim
          have h5 := h.lh
          omega
        have hX2 : (P2).X.length = n := hlen2
        have htold := hC2.told
        have hnl2 := hC2.nl
        have hnb2 := hC2.nb
        refine gw ?_
        refine n_loop1 rfl fun tb => ?_
        refine n_loop (σ := Nat) (fun k => [(0, .int .i64 (n : Nat)), (1, .int .i64 D), (2, .int .i64 U), (3, .raw (.slice (some ad) Y.length cap)), (10, .raw (.slice (some ⟨g, 0, none⟩) X0.length cap0)), (11, .raw (pV q)), (12, .int .i64 (i : Nat)), (14, .int .i64 (wi : Nat)), (15, (.bool true)), (17, .int .i64 (totT (fun x => x.l.d) (P2).X k)), (18, .int .i64 (totT (fun x => x.l.u) (P2).X k)), (19, .int .i64 (k : Nat))]) (fun _ => [⟨34, [.res (plRes P2)], true⟩, ⟨27, [.res (cellsRes q ((Nd).map intV) 27)], true⟩, ⟨29, x.sv, true⟩]) (fun k => k ≤ n) (fun k => n - k) 0 mixed (by omega) (fun _ _ => rfl) rfl (by (repeat (first | exact trivial | refine ⟨⟨rfl, rfl⟩, ?_⟩))) (fun s _ => ⟨by (repeat (first | exact trivial | refine ⟨⟨_, rfl⟩, ?_⟩)), by (repeat (first | exact trivial | refine ⟨⟨_, rfl⟩, ?_⟩))⟩) fun k hk => ?_
        (refine gs ?_)
        by_cases hkn : k < n
        · have ek : IntKind.i64.wrap ((k : Int) + 1) = ((k + 1 : Nat) : Int) := by rw [w64 (by omega) (by omega)]; simp
          have hz : (P2).X[k]? = some ((P2).X[k]'(by omega)) := List.getElem?_eq_getElem _
          have hzm := hp2 _ (List.getElem_mem (show k < (P2).X.length by omega))
          generalize ((P2).X[k]'(by omega)) = z at hz hzm
          have b1 := totT_bound (f := fun x => x.l.d) (fun x hx => (hp2 x hx).1) k
          have b2 := totT_bound (f := fun x => x.l.u) (fun x hx => (hp2 x hx).2) k
          have s1 : IntKind.i64.wrap (totT (fun x => x.l.d) (P2).X k + z.l.d) = totT (fun x => x.l.d) (P2).X (k + 1) := by rw [totT_next hz]; exact w64 (by omega) (by omega)
          have s2 : IntKind.i64.wrap (totT (fun x => x.l.u) (P2).X k + z.l.u) = totT (fun x => x.l.u) (P2).X (k + 1) := by rw [totT_next hz]; exact w64 (by omega) (by omega)
          (repeat ((first | refine n_must rfl ?_ | refine n_chk (drawF_ok (by decide +kernel)) ?_ | refine n_same rfl ?_ | ((first | refine n_must ?_ ?_ | refine n_brT ?_ ?_); (focus (first | (simp [hkn]; done) | (simp [hkn]; omega) | (simp only [hkn]; simp; done)))) | (refine n_brF ?_ ?_; (focus (first | (simp [hkn]; done) | (simp [hkn]; omega) | (simp only [hkn]; simp; done)))) | refine n_must (by (with_reducible refine and_shape ?_) <;> kernel_rfl) ?_); (refine gs ?_)))
          (refine n_ldA (.raw (pV z.b)) rfl (by first | exact trivial | rfl) rfl (fun _ w1 _ hI1 => load_cell aggLp (row_at pc_len (hpo2 ▸ memRes_res (hI1.res 0 rfl rfl) 0 rfl rfl) hz (j := 1) (by omega) rfl (by rw [Int.toNat_natCast, add_add]; rfl))) ?_; (refine gs ?_))
          refine gw ?_
          refine n_sameP (rtS (z.l.d, z.l.u)) rfl rfl rfl (fun _ w1 hp1 hI1 => rights_pl (hI1.res 0 rfl rfl) hz) ?_; (refine gs ?_)
          refine gw ?_
          (refine n_ldA (.raw (pV z.b)) rfl (by first | exact trivial | rfl) rfl (fun _ w1 _ hI1 => load_cell aggLp (row_at pc_len (hpo2 ▸ memRes_res (hI1.res 0 rfl rfl) 0 rfl rfl) hz (j := 1) (by omega) rfl (by rw [Int.toNat_natCast, add_add]; rfl))) ?_; (refine gs ?_))
          refine gw ?_
          refine n_sameP (rtS (z.l.d, z.l.u)) rfl rfl rfl (fun _ w1 hp1 hI1 => rights_pl (hI1.res 0 rfl rfl) hz) ?_; (refine gs ?_)
          refine gw ?_
          exact n_again ⟨k + 1, by omega, by omega, (by (repeat (first | exact trivial | refine ⟨⟨rfl, rfl⟩, ?_⟩ | refine ⟨⟨rfl, congrArg (SV.int .i64) ek⟩, ?_⟩ | refine ⟨⟨rfl, congrArg (SV.int .i64) s1⟩, ?_⟩ | refine ⟨⟨rfl, congrArg (SV.int .i64) s2⟩, ?_⟩))), ⟨_, rfl⟩⟩
        · obtain rfl : k = n := by omega
          have t1 : totT (fun x => x.l.d) (P2).X k = D := by rw [← hX2, totT_all]; exact htd2
          have t2 : totT (fun x => x.l.u) (P2).X k = U := by rw [← hX2, totT_all]; exact htu2
          rw [t1, t2]
          have hwX : (P2).X[wi]? = some ((P2).X[wi]'(by omega)) := List.getElem?_eq_getElem _
          have hw0 := (htold wi _ hwX).1
          have hgt : (Nd)[wi]? = some ((Nd).getD wi 0) := gtl _ (by rw [hnl2]; omega)
          generalize (Nd).getD wi 0 = nw at hw0 hgt
          have hw0' : ¬ nw < 0 := by omega
          (repeat ((first | refine n_must rfl ?_ | refine n_chk (drawF_ok (by decide +kernel)) ?_ | refine n_same rfl ?_ | ((first | refine n_must ?_ ?_ | refine n_brT ?_ ?_); (focus (first | (simp [hkn]; done) | (simp [hkn]; omega) | (simp only [hkn]; simp; done)))) | (refine n_brF ?_ ?_; (focus (first | (simp [hkn]; done) | (simp [hkn]; omega) | (simp only [hkn]; simp; done)))) | refine n_must (by (with_reducible refine and_shape ?_) <;> kernel_rfl) ?_); (refine gs ?_)))
          refine n_exit rfl ?_
          (refine gs ?_)
          refine gw ?_
          (refine n_ldA (.int .i64 nw) rfl (by first | exact trivial | rfl) rfl (fun _ w1 _ hI1 => load_cell aggInt (cellsRes_at (hI1.res 1 rfl rfl) (j := wi) (by rw [List.getElem?_map, hgt]; rfl) (by rw [Int.toNat_natCast, Nat.mul_one]))) ?_; (refine gs ?_))
          (repeat ((first | refine n_must rfl ?_ | refine n_chk (drawF_ok (by decide +kernel)) ?_ | refine n_same rfl ?_ | ((first | refine n_must ?_ ?_ | refine n_brT ?_ ?_); (focus (first | (simp [hw0']; done) | (simp [hw0']; omega) | (simp only [hw0']; simp; done)))) | (refine n_brF ?_ ?_; (focus (first | (simp [hw0']; done) | (simp [hw0']; omega) | (simp only [hw0']; simp; done)))) | refine n_must (by (with_reducible refine and_shape ?_) <;> kernel_rfl) ?_); (refine gs ?_)))
          exact n_again ⟨(i + 1, P2, Nd), ⟨by dsimp only; omega, by dsimp only; omega, hC2⟩, by dsimp only; omega, (by (repeat (first | exact trivial | refine ⟨⟨rfl, rfl⟩, ?_⟩ | refine ⟨⟨rfl, congrArg (SV.int .i64) ei⟩, ?_⟩))), ⟨_, rfl⟩⟩
    · have h4' : ¬ (i : Int) < 200 := by omega
      (repeat ((first | refine n_must rfl ?_ | refine n_chk (drawF_ok (by decide +kernel)) ?_ | refine n_same rfl ?_ | ((first | refine n_must ?_ ?_ | refine n_brT ?_ ?_); (focus (first | (simp [hil, h4']; done) | (simp [hil, h4']; omega) | (simp only [hil, h4']; simp; done)))) | (refine n_brF ?_ ?_; (focus (first | (simp [hil, h4']; done) | (simp [hil, h4']; omega) | (simp only [hil, h4']; simp; done)))) | refine n_must (by (with_reducible refine and_shape ?_) <;> kernel_rfl) ?_); (refine gs ?_)))
      refine n_exit rfl ?_
      (refine gs ?_)
      refine gw ?_
      exact n_ret0 rfl rfl fun ids' w' hp hI' => ⟨rfl, hI'.frm⟩
  · (repeat ((first | refine n_must rfl ?_ | refine n_chk (drawF_ok (by decide +kernel)) ?_ | refine n_same rfl ?_ | ((first | refine n_must ?_ ?_ | refine n_brT ?_ ?_); (focus (first | (simp [hil]; done) | (simp [hil]; omega) | (simp only [hil]; simp; done)))) | (refine n_brF ?_ ?_; (focus (first | (simp [hil]; done) | (simp [hil]; omega) | (simp only [hil]; simp; done)))) | refine n_must (by (with_reducible refine and_shape ?_) <;> kernel_rfl) ?_); (refine gs ?_)))
    refine n_exit rfl ?_
    (refine gs ?_)
    refine gw ?_
    exact n_ret0 rfl rfl fun ids' w' hp hI' => ⟨rfl, hI'.frm⟩
end Go.Proofs.YtglafgpjgkphkaaGreatDoor
