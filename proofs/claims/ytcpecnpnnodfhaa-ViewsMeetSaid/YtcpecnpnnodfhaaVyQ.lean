/- Chapter 9's law without the document's answer: ViewsMeet. -/
import Derived.Test.YtcpecnpnnodfhaaBnVk
set_option maxRecDepth 100000
set_option linter.unusedSimpArgs false
set_option linter.unusedVariables false
set_option maxHeartbeats 16000000
namespace Go.Proofs.Ytcpecnpnnodfhaa
open Go.RowKit

/-- What was had lies somewhere. -/
def HadS (T : Tk) : Prop := ∀ j, j < 32 → 0 < (hadL T.X j).length → ∃ g, (T.S j).1 = some ⟨g, 0, none⟩
theorem had_some {t : Nat} {T : Tk} {w : World} (hR : (tkRes t T).R w) : HadS T := fun j hj h0 => by
  have hrow : T.rows[j]? = some (vRow (T.S j).1 (hadL T.X j).length (T.S j).2 (vws (hadL T.X j))) := by
    rw [List.getElem?_map, List.getElem?_range hj]; rfl
  exact rowRes_some' (all_at (memRes_res hR 3 rfl rfl) hrow) h0
abbrev lastsX (X : List Rp) (k m : Nat) : List (Int × Int) := (List.range m).map fun u => ((lastX X u k).d, (lastX X u k).u)
theorem lasts_next (X : List Rp) (k m : Nat) : (lastsX X k m).flatMap rtL ++ rtL ((lastX X m k).d, (lastX X m k).u) = (lastsX X k (m + 1)).flatMap rtL := by
  unfold lastsX
  rw [List.range_succ, List.map_append, List.flatMap_append]; simp
theorem n_loopF {c : Ctx} {Q : SExit → Fr → Mem → List Nat → World → Prop} {ids : List Nat} {fr : Fr} {mem : Mem} {todo : List Task} {body : Code} {P : Prop} (hf : ∀ ids' w, ids <+: ids' → Inv c w ids' mem → P) (h : P → satN c Q (.loop body ⟨fr, mem, todo⟩) ids) : satN c Q (.loop body ⟨fr, mem, todo⟩) ids :=
  satN_iff.2 fun ids' w a hp hI hF => satN_iff.1 (h (hf ids' w hp hI)) ids' w a hp hI hF
theorem ViewsMeet_ok {rep : Int} {o : Option Addr} {Y : List Sy} {cap : Nat} {w : World} (hrep : i64 rep) (hR : (syRes o Y).R w) (hY : ∀ y ∈ Y, y.good) (hl : Y.length ≤ 9223372036854775806) :
    Calls Try.prog 7 #[.int .i64 rep, .slice o Y.length cap] w fun e w' => e = .returned (.bool true) ∧ Frm [] w w' := by
  have hI := Inv.nil (P := Try.prog) (N := 175) (S := []) (os := [(38, .of [(0, []), (1, []), (2, []), (3, []), (4, []), (5, []), (6, []), (8, []), (7, [6, 3]), (9, []), (10, []), (11, []), (12, []), (13, []), (14, []), (15, [])]), (39, .of [(0, []), (1, []), (2, []), (3, []), (4, []), (5, []), (6, []), (8, []), (7, [6, 3]), (9, []), (10, []), (11, [])])]) w
  have hS1 : ∀ w1, Frm [] w w1 → (syRes o Y).R w1 := fun w1 hf => (syRes o Y).stable _ _ (fun k hk => hf.block k (rd_lt hR k hk) (by simp)) hR
  have bn := within_le (x := rep) (show (2 : Int) ≤ 8 by omega)
  obtain ⟨n, hn⟩ := Int.eq_ofNat_of_zero_le (show 0 ≤ withinF rep 2 8 by omega)
  rw [hn] at bn
  have hn2 : 2 ≤ n ∧ n ≤ 8 := by omega
  refine calls_sm (cx 175 [(38, .of [(0, []), (1, []), (2, []), (3, []), (4, []), (5, []), (6, []), (8, []), (7, [6, 3]), (9, []), (10, []), (11, []), (12, []), (13, []), (14, []), (15, [])]), (39, .of [(0, []), (1, []), (2, []), (3, []), (4, []), (5, []), (6, []), (8, []), (7, [6, 3]), (9, []), (10, []), (11, [])])] [] w) (vals := [.int .i64 rep, .raw (.slice o Y.length cap)]) mixed Try.func7 rfl rfl rfl hI rfl (st rfl ?_); conv => arg 3; whnf
  refine gw ?_
  refine n_sameP (.bool true) rfl rfl rfl (fun _ w1 hp1 hI1 => alive_ok w1) ?_; (refine gs ?_)
  refine gw ?_
  refine n_sameP (.int .i64 (n : Nat)) rfl rfl rfl (fun _ w1 hp1 hI1 => by rw [← hn]; exact within_ok rep 2 8 hrep (by omega) (by omega) (by omega) w1) ?_; (refine gs ?_)
  refine gw ?_
  refine n_callN (fun y : Nat × Option Addr × Nat × List Rp => tkRes y.1 (Tk.new y.2.1 y.2.2.1 y.2.2.2)) 41 (fun y => .raw (pV y.1)) (fun y => pV y.1) (fun y => y.2.2.2.length = n ∧ FreshX n y.2.2.2 ∧ ∃ g, y.2.1 = some ⟨g, 0, none⟩) rfl rfl rfl (fun _ => rfl) (fun w1 hI1 => begun_ok' hn2 w1) ?_
  rintro ⟨t, vo, vc, X0⟩ ⟨hX0l, hX0, gv, hgv⟩ _
  dsimp only at hX0l hX0 hgv ⊢
  have hT0 : TkI (Tk.new vo vc X0) n 0 := TkI.new hn2 hX0l hX0
  have hv0 : (Tk.new vo vc X0).vo = some ⟨gv, 0, none⟩ := hgv
  have hh0 : HadS (Tk.new vo vc X0) := fun j hj h => by
    rw [show hadL (Tk.new vo vc X0).X j = [] from fresh_hadL hX0 j] at h
    simp at h
  generalize Tk.new vo vc X0 = T0 at hT0 hv0 hh0
  (refine gs ?_)
  refine gw ?_
  refine n_loopJ (k := 0) (σ := Nat × Tk) (fun s => [(1, .raw (.slice o Y.length cap)), (6, .int .i64 (n : Nat)), (7, .raw (pV t)), (8, .int .i64 (s.1 : Nat))]) (fun s => [⟨41, [.res (tkRes t s.2)], true⟩]) (fun s => s.1 ≤ Y.length ∧ s.1 ≤ 200 ∧ TkI s.2 n s.1 ∧ s.2.vo = some ⟨gv, 0, none⟩ ∧ HadS s.2) (fun _ => True) (fun s => Y.length - s.1) (0, T0) mixed rfl ⟨by simp, by simp, hT0, hv0, hh0⟩ (fun _ _ => rfl) (fun _ h => h) rfl (by (repeat (first | exact trivial | refine ⟨⟨rfl, rfl⟩, ?_⟩))) (fun s _ => ⟨by (repeat (first | exact trivial | refine ⟨⟨_, rfl⟩, ?_⟩)), by (repeat (first | exact trivial | refine ⟨⟨_, rfl⟩, ?_⟩))⟩) (fun s hs => ?_) (fun s hs _ => ?_)
  · obtain ⟨i, T⟩ := s
    obtain ⟨hi1, hi2, hT, hvo, hhs⟩ := hs
    dsimp only at hi1 hi2 hT hvo hhs ⊢
    (refine gs ?_)
    by_cases hil : i < Y.length
    · by_cases h4 : i < 200
      · have ei : IntKind.i64.wrap ((i : Int) + 1) = ((i + 1 : Nat) : Int) := by rw [w64 (by omega) (by omega)]; simp
        have h4' : (i : Int) < 200 := by omega
        have hx : Y[i]? = some Y[i] := List.getElem?_eq_getElem _
        have hg := hY _ (List.getElem_mem hil)
        generalize Y[i] = x at hx hg
        obtain ⟨ad, rfl⟩ := rd_some sy_len (by omega) hR (show 0 < Y.length by omega)
        (repeat ((first | refine n_must rfl ?_ | refine n_chk (drawF_ok (by decide +kernel)) ?_ | refine n_same rfl ?_ | ((first | refine n_must ?_ ?_ | refine n_brT ?_ ?_); (focus (first | (simp [hil, h4']; done) | (simp [hil, h4']; omega) | (simp only [hil, h4']; simp; done)))) | (refine n_brF ?_ ?_; (focus (first | (simp [hil, h4']; done) | (simp [hil, h4']; omega) | (simp only [hil, h4']; simp; done)))) | refine n_must (by (with_reducible refine and_shape ?_) <;> kernel_rfl) ?_); (refine gs ?_)))
        (refine n_ldA (.agg x.sv) rfl (by first | exact trivial | rfl) rfl (fun _ w1 _ hI1 => sy_load (hS1 _ hI1.frm) hx rfl) ?_; (refine gs ?_))
        refine gw ?_
        refine n_callR (Y := Tk) 0 (fun T' => tkRes t T') (fun _ => .bool true) (fun _ => .bool true) (fun T' => TkI T' n (i + 1) ∧ T'.vo = T.vo ∧ HadS T') rfl rfl (fun _ => rfl) rfl rfl rfl (fun _ w1 _ hI1 hR1 => (step_ok hT (by omega) hg hR1).mono fun e w' ⟨T', he, hT', hP⟩ => ⟨T', he, ⟨hT'.1, hT'.2, had_some hP.2.1⟩, hP⟩) ?_
        rintro T' ⟨hT', hvo', hhs'⟩
        (refine gs ?_)
        refine gw ?_
        exact n_againJ fun ids' w' hp hI' => ⟨(i + 1, T'), ⟨by dsimp only; omega, by dsimp only; omega, hT', hvo'.trans hvo, hhs'⟩, by dsimp only; omega, (by (repeat (first | exact trivial | refine ⟨⟨rfl, rfl⟩, ?_⟩ | refine ⟨⟨rfl, congrArg (SV.int .i64) ei⟩, ?_⟩))), [], hI'⟩
      · have h4' : ¬ (i : Int) < 200 := by omega
        (repeat ((first | refine n_must rfl ?_ | refine n_chk (drawF_ok (by decide +kernel)) ?_ | refine n_same rfl ?_ | ((first | refine n_must ?_ ?_ | refine n_brT ?_ ?_); (focus (first | (simp [hil, h4']; done) | (simp [hil, h4']; omega) | (simp only [hil, h4']; simp; done)))) | (refine n_brF ?_ ?_; (focus (first | (simp [hil, h4']; done) | (simp [hil, h4']; omega) | (simp only [hil, h4']; simp; done)))) | refine n_must (by (with_reducible refine and_shape ?_) <;> kernel_rfl) ?_); (refine gs ?_)))
        exact n_exitJ fun ids' w' hp hI' => ⟨(i, T), ⟨⟨hi1, hi2, hT, hvo, hhs⟩, trivial⟩, (by (repeat (first | exact trivial | refine ⟨⟨rfl, rfl⟩, ?_⟩))), [], hI'⟩
    · (repeat ((first | refine n_must rfl ?_ | refine n_chk (drawF_ok (by decide +kernel)) ?_ | refine n_same rfl ?_ | ((first | refine n_must ?_ ?_ | refine n_brT ?_ ?_); (focus (first | (simp [hil]; done) | (simp [hil]; omega) | (simp only [hil]; simp; done)))) | (refine n_brF ?_ ?_; (focus (first | (simp [hil]; done) | (simp [hil]; omega) | (simp only [hil]; simp; done)))) | refine n_must (by (with_reducible refine and_shape ?_) <;> kernel_rfl) ?_); (refine gs ?_)))
      exact n_exitJ fun ids' w' hp hI' => ⟨(i, T), ⟨⟨hi1, hi2, hT, hvo, hhs⟩, trivial⟩, (by (repeat (first | exact trivial | refine ⟨⟨rfl, rfl⟩, ?_⟩))), [], hI'⟩
  obtain ⟨i1, T1⟩ := s
  obtain ⟨_, hi1, hT1, hvo1, hhs1⟩ := hs
  dsimp only at hi1 hT1 hvo1 hhs1 ⊢
  have hT1 := hT1.mono hi1
  (refine gs ?_)
  refine gw ?_
  refine n_loopJ (k := 2) (σ := Nat × Tk) (fun s => [(6, .int .i64 (n : Nat)), (7, .raw (pV t)), (9, .int .i64 (s.1 : Nat))]) (fun s => [⟨41, [.res (tkRes t s.2)], true⟩]) (fun s => s.1 ≤ n ∧ TkI s.2 n (200 + 8 * s.1) ∧ s.2.vo = some ⟨gv, 0, none⟩ ∧ Met s.2.X n s.1 0 ∧ HadS s.2) (fun s => s.1 = n) (fun s => n - s.1) (0, T1) mixed rfl ⟨by simp, hT1, hvo1, met_zero _ _, hhs1⟩ (fun _ _ => rfl) (fun _ h => h) rfl (by (repeat (first | exact trivial | refine ⟨⟨rfl, rfl⟩, ?_⟩))) (fun s _ => ⟨by (repeat (first | exact trivial | refine ⟨⟨_, rfl⟩, ?_⟩)), by (repeat (first | exact trivial | refine ⟨⟨_, rfl⟩, ?_⟩))⟩) (fun s hs => ?_) (fun s hs hE => ?_)
  · obtain ⟨wi, T⟩ := s
    obtain ⟨hwn, hT, hvo, hM, hhs⟩ := hs
    dsimp only at hwn hT hvo hM hhs ⊢
    (refine gs ?_)
    by_cases hwl : wi < n
    · have ew : IntKind.i64.wrap ((wi : Int) + 1) = ((wi + 1 : Nat) : Int) := by rw [w64 (by omega) (by omega)]; simp
      (repeat ((first | refine n_must rfl ?_ | refine n_chk (drawF_ok (by decide +kernel)) ?_ | refine n_same rfl ?_ | ((first | refine n_must ?_ ?_ | refine n_brT ?_ ?_); (focus (first | (simp [hwl]; done) | (simp [hwl]; omega) | (simp only [hwl]; simp; done)))) | (refine n_brF ?_ ?_; (focus (first | (simp [hwl]; done) | (simp [hwl]; omega) | (simp only [hwl]; simp; done)))) | refine n_must (by (with_reducible refine and_shape ?_) <;> kernel_rfl) ?_); (refine gs ?_)))
      refine n_loopJ (k := 4) (σ := Nat × Tk) (fun s => [(6, .int .i64 (n : Nat)), (7, .raw (pV t)), (9, .int .i64 (wi : Nat)), (10, .int .i64 (s.1 : Nat))]) (fun s => [⟨41, [.res (tkRes t s.2)], true⟩]) (fun s => s.1 ≤ n ∧ TkI s.2 n (200 + 8 * wi + s.1) ∧ s.2.vo = some ⟨gv, 0, none⟩ ∧ Met s.2.X n wi s.1 ∧ HadS s.2) (fun s => s.1 = n) (fun s => n - s.1) (0, T) mixed rfl ⟨by simp, hT, hvo, hM, hhs⟩ (fun _ _ => rfl) (fun _ h => h) rfl (by (repeat (first | exact trivial | refine ⟨⟨rfl, rfl⟩, ?_⟩))) (fun s _ => ⟨by (repeat (first | exact trivial | refine ⟨⟨_, rfl⟩, ?_⟩)), by (repeat (first | exact trivial | refine ⟨⟨_, rfl⟩, ?_⟩))⟩) (fun s hs => ?_) (fun s hs hE => ?_)
      · obtain ⟨u, T⟩ := s
        obtain ⟨hun, hT, hvo, hM, hhs⟩ := hs
        dsimp only at hun hT hvo hM hhs ⊢
        have hlen := hT.ok.len
        (refine gs ?_)
        by_cases hul : u < n
        · have eu : IntKind.i64.wrap ((u : Int) + 1) = ((u + 1 : Nat) : Int) := by rw [w64 (by omega) (by omega)]; simp
          by_cases huw : u = wi
          · subst huw
            (repeat ((first | refine n_must rfl ?_ | refine n_chk (drawF_ok (by decide +kernel)) ?_ | refine n_same rfl ?_ | ((first | refine n_must ?_ ?_ | refine n_brT ?_ ?_); (focus (first | (simp [hul]; done) | (simp [hul]; omega) | (simp only [hul]; simp; done)))) | (refine n_brF ?_ ?_; (focus (first | (simp [hul]; done) | (simp [hul]; omega) | (simp only [hul]; simp; done)))) | refine n_must (by (with_reducible refine and_shape ?_) <;> kernel_rfl) ?_); (refine gs ?_)))
            exact n_againJ fun ids' w' hp hI' => ⟨(u + 1, T), ⟨by dsimp only; omega, hT.mono (by dsimp only; omega), hvo, met_self hM, hhs⟩, by dsimp only; omega, (by (repeat (first | exact trivial | refine ⟨⟨rfl, rfl⟩, ?_⟩ | refine ⟨⟨rfl, congrArg (SV.int .i64) eu⟩, ?_⟩))), [], hI'⟩
          · have huw' : ¬ (u : Int) = (wi : Int) := by omega
            have hx : T.X[wi]? = some (T.X[wi]'(by omega)) := List.getElem?_eq_getElem _
            generalize (T.X[wi]'(by omega)) = x at hx
            have hy : T.X[u]? = some (T.X[u]'(by omega)) := List.getElem?_eq_getElem _
            generalize (T.X[u]'(by omega)) = y at hy
            obtain ⟨hv, hs, hm, ha⟩ := hT.ok.rel u y hy
            have hdf := dig_four hv hs
            have hdl := digU_len y.r 4
            (repeat ((first | refine n_must rfl ?_ | refine n_chk (drawF_ok (by decide +kernel)) ?_ | refine n_same rfl ?_ | ((first | refine n_must ?_ ?_ | refine n_brT ?_ ?_); (focus (first | (simp [hul, huw']; done) | (simp [hul, huw']; omega) | (simp only [hul, huw']; simp; done)))) | (refine n_brF ?_ ?_; (focus (first | (simp [hul, huw']; done) | (simp [hul, huw']; omega) | (simp only [hul, huw']; simp; done)))) | refine n_must (by (with_reducible refine and_shape ?_) <;> kernel_rfl) ?_); (refine gs ?_)))
            (refine n_ldA (.raw (.slice (some ⟨gv, 0, none⟩) (T).X.length (T).vc)) rfl (by first | exact trivial | rfl) rfl (fun _ w1 _ hI1 => (by rw [← hvo]; exact load_cell aggVp (tk_v (memRes_res (hI1.res 0 rfl rfl) 0 rfl rfl) rfl))) ?_; (refine gs ?_))
            refine gw ?_
            (refine n_ldA (.raw (pV (y).v)) rfl (by first | exact trivial | rfl) rfl (fun _ w1 _ hI1 => load_cell aggPv (rowRes_cell (hvo ▸ memRes_res (hI1.res 0 rfl rfl) 1 rfl rfl) (by rw [Nat.mul_one, List.getElem?_map, Int.toNat_natCast, hy]; rfl))) ?_; (refine gs ?_))
            refine gw ?_
            refine n_callN (fun z : Option Addr × Nat => vRow z.1 (digU y.r 4).length z.2 (vws (digU y.r 4))) 49 (fun z => .raw (.slice z.1 (digU y.r 4).length z.2)) (fun z => .slice z.1 (digU y.r 4).length z.2) (fun _ => True) rfl rfl rfl (fun _ => rfl) (fun w1 hI1 => hdf ▸ (dig_row9 hv (by omega) (tk_res (hI1.res 0 rfl rfl) hy)).mono fun e w' ⟨z, he, _, hf⟩ => ⟨z, he, trivial, hf⟩) ?_
            rintro ⟨l0, c0⟩ _ _
            dsimp only
            (refine gs ?_)
            refine gw ?_
            have hlo := dig_ok hy (hT.right u y hy) (l0, c0)
            refine n_callR (Y := Unit) 0 (fun _ => tkRes t { T with X := T.X.set wi (x.taken u (digU y.r 4)) }) (fun _ => .bool true) (fun _ => .bool true) (fun _ => HadS { T with X := T.X.set wi (x.taken u (digU y.r 4)) }) rfl rfl (fun _ => rfl) rfl rfl rfl (fun _ w1 _ hI1 hR1 =>
              (comes_ok hT.ok (by omega) hT.said hlo hx huw hR1 (fun w2 hR2 hf2 => rd_of_row ((vRow l0 (digU y.r 4).length c0 (vws (digU y.r 4))).stable w1 w2 (fun k hk => hf2.block k (rowRes_lt (hI1.res 1 rfl rfl) k hk) (fun hk2 => hI1.res_res 0 1 (by decide) rfl rfl rfl rfl k hk2 hk)) (hI1.res 1 rfl rfl))) (fun z hz hz2 => hI1.res_res 0 1 (by decide) rfl rfl rfl rfl z (tk_in hR1 hx z hz) (rd_inR hz2))).mono fun e w' ⟨he, hP⟩ => ⟨(), he, had_some hP.2.1, hP⟩) ?_
            intro _ hhs'
            (refine gs ?_)
            refine gw ?_
            exact n_againJ fun ids' w' hp hI' => ⟨(u + 1, { T with X := T.X.set wi (x.taken u (digU y.r 4)) }), ⟨by dsimp only; omega, hT.take (l := ⟨u, (l0, c0), digU y.r 4⟩) hx hlo huw, hvo, met_take hT hM hx hy huw, hhs'⟩, by dsimp only; omega, (by (repeat (first | exact trivial | refine ⟨⟨rfl, rfl⟩, ?_⟩ | refine ⟨⟨rfl, congrArg (SV.int .i64) eu⟩, ?_⟩))), _, hI'⟩
        · (repeat ((first | refine n_must rfl ?_ | refine n_chk (drawF_ok (by decide +kernel)) ?_ | refine n_same rfl ?_ | ((first | refine n_must ?_ ?_ | refine n_brT ?_ ?_); (focus (first | (simp [hul]; done) | (simp [hul]; omega) | (simp only [hul]; simp; done)))) | (refine n_brF ?_ ?_; (focus (first | (simp [hul]; done) | (simp [hul]; omega) | (simp only [hul]; simp; done)))) | refine n_must (by (with_reducible refine and_shape ?_) <;> kernel_rfl) ?_); (refine gs ?_)))
          exact n_exitJ fun ids' w' hp hI' => ⟨(u, T), ⟨⟨hun, hT, hvo, hM, hhs⟩, by dsimp only; omega⟩, (by (repeat (first | exact trivial | refine ⟨⟨rfl, rfl⟩, ?_⟩))), [], hI'⟩
      · obtain ⟨u, T⟩ := s
        obtain ⟨hun, hT, hvo, hM, hhs⟩ := hs
        dsimp only at hun hT hvo hM hhs hE ⊢
        subst hE
        (refine gs ?_)
        refine gw ?_
        exact n_againJ fun ids' w' hp hI' => ⟨(wi + 1, T), ⟨by dsimp only; omega, hT.mono (by dsimp only; omega), hvo, met_row hM, hhs⟩, by dsimp only; omega, (by (repeat (first | exact trivial | refine ⟨⟨rfl, rfl⟩, ?_⟩ | refine ⟨⟨rfl, congrArg (SV.int .i64) ew⟩, ?_⟩))), [], hI'⟩
    · (repeat ((first | refine n_must rfl ?_ | refine n_chk (drawF_ok (by decide +kernel)) ?_ | refine n_same rfl ?_ | ((first | refine n_must ?_ ?_ | refine n_brT ?_ ?_); (focus (first | (simp [hwl]; done) | (simp [hwl]; omega) | (simp only [hwl]; simp; done)))) | (refine n_brF ?_ ?_; (focus (first | (simp [hwl]; done) | (simp [hwl]; omega) | (simp only [hwl]; simp; done)))) | refine n_must (by (with_reducible refine and_shape ?_) <;> kernel_rfl) ?_); (refine gs ?_)))
      exact n_exitJ fun ids' w' hp hI' => ⟨(wi, T), ⟨⟨hwn, hT, hvo, hM, hhs⟩, by dsimp only; omega⟩, (by (repeat (first | exact trivial | refine ⟨⟨rfl, rfl⟩, ?_⟩))), [], hI'⟩
  obtain ⟨wi, T⟩ := s
  obtain ⟨_, hT, hvo, hM, hhs⟩ := hs
  dsimp only at hT hvo hM hE hhs ⊢
  have hE' := hE.symm
  subst hE'
  have hlen := hT.ok.len
  obtain ⟨itt, hitt, hpt⟩ := Option.map_eq_some_iff.1 rtInfo
  simp only [Prod.mk.injEq] at hpt
  (refine gs ?_)
  refine gw ?_
  refine n_loop (σ := Nat) (fun k => [(6, .int .i64 (n : Nat)), (7, .raw (pV t)), (11, .int .i64 (k : Nat))]) (fun _ => [⟨41, [.res (tkRes t T)], true⟩]) (fun k => k ≤ 4) (fun k => 4 - k) 0 mixed (by omega) (fun _ _ => rfl) rfl (by (repeat (first | exact trivial | refine ⟨⟨rfl, rfl⟩, ?_⟩))) (fun s _ => ⟨by (repeat (first | exact trivial | refine ⟨⟨_, rfl⟩, ?_⟩)), by (repeat (first | exact trivial | refine ⟨⟨_, rfl⟩, ?_⟩))⟩) fun k hk => ?_
  (refine gs ?_)
  by_cases hk4 : k < 4
  · have ek : IntKind.i64.wrap ((k : Int) + 1) = ((k + 1 : Nat) : Int) := by rw [w64 (by omega) (by omega)]; simp
    have hgd : (#[Value.string (nmK 0), Value.string (nmK 1), Value.string (nmK 2), Value.string (nmK 3)] : Array Value).getD ((k : Int).toNat * 1) Go.undef = .string (nmK k) := by
      have hk' : k = 0 ∨ k = 1 ∨ k = 2 ∨ k = 3 := by omega
      rcases hk' with rfl | rfl | rfl | rfl <;> rfl
    (repeat ((first | refine n_must rfl ?_ | refine n_chk (drawF_ok (by decide +kernel)) ?_ | refine n_same rfl ?_ | ((first | refine n_must ?_ ?_ | refine n_brT ?_ ?_); (focus (first | (simp [hk4]; done) | (simp [hk4]; omega) | (simp only [hk4]; simp; done)))) | (refine n_brF ?_ ?_; (focus (first | (simp [hk4]; done) | (simp [hk4]; omega) | (simp only [hk4]; simp; done)))) | refine n_must (by (with_reducible refine and_shape ?_) <;> kernel_rfl) ?_); (refine gs ?_)))
    refine n_loopX [0] [⟨41, [.res (tkRes t T)], true⟩, ⟨47, [.res (rowRes 47 2 none 0 0 [])], true⟩] rfl (fun w hI => hI.addR (Frm.refl [] w) (rowRes 47 2 none 0 0 []) 47 true (rowRes_nil _ _ _) (by simp [rowRes]) (by simp [rowRes])) ?_
    refine n_loop (σ := Nat × Option Addr × Nat) (fun s => [(6, .int .i64 (n : Nat)), (7, .raw (pV t)), (11, .int .i64 (k : Nat)), (12, .int .i64 (sumX T.X k s.1)), (13, litB (isX T.X k s.1)), (14, .raw (.slice s.2.1 s.1 s.2.2)), (15, .int .i64 (s.1 : Nat))]) (fun s => [⟨41, [.res (tkRes t T)], true⟩, ⟨47, [.res (rowRes 47 2 s.2.1 s.1 s.2.2 ((lastsX T.X k s.1).flatMap rtL))], true⟩]) (fun s => s.1 ≤ n) (fun s => n - s.1) (0, none, 0) mixed (by dsimp only; omega) (fun _ _ => rfl) rfl (by (repeat (first | exact trivial | refine ⟨⟨rfl, rfl⟩, ?_⟩))) (fun s _ => ⟨by cases isX T.X k s.1 <;> (repeat (first | exact trivial | refine ⟨⟨_, rfl⟩, ?_⟩)), by (repeat (first | exact trivial | refine ⟨⟨_, rfl⟩, ?_⟩))⟩) fun s hs => ?_
    obtain ⟨u, oo, oc⟩ := s
    dsimp only at hs ⊢
    (refine gs ?_)
    by_cases hul : u < n
    · have eu : IntKind.i64.wrap ((u : Int) + 1) = ((u + 1 : Nat) : Int) := by rw [w64 (by omega) (by omega)]; simp
      have hj32 : u * 4 + k < 32 := by omega
      have hrow : T.rows[u * 4 + k]? = some (vRow (T.S (u * 4 + k)).1 (hadL T.X (u * 4 + k)).length (T.S (u * 4 + k)).2 (vws (hadL T.X (u * 4 + k)))) := by
        rw [List.getElem?_map, List.getElem?_range hj32]; rfl
      obtain ⟨hl1, hl2⟩ := had_last hT hul hk4
      have hsm := hhs (u * 4 + k) hj32
      have hsb := sum_bound hT k u
      have hlb := last_bound hT u k
      have hnx := lasts_next T.X k u
      have hs1 : sumX T.X k (u + 1) = sumX T.X k u + (lastX T.X u k).d := rfl
      have hb1 : isX T.X k (u + 1) = (isX T.X k u || decide (0 < (lastX T.X u k).ver)) := rfl
      generalize lastX T.X u k = z at hl1 hl2 hlb hnx hs1 hb1
      generalize hO : hadL T.X (u * 4 + k) = O at hrow hl1 hl2 hsm
      have hOl : O.length ≤ 1000000 := by
        rw [← hO]
        unfold hadL
        split
        · rename_i z' hz'
          have h1 := ownL_le z'.r.All z'.r.me (nmK ((u * 4 + k) % 4))
          obtain ⟨_, _, _, h2⟩ := hT.ok.rel _ z' hz'
          omega
        · simp
      have es : IntKind.i64.wrap (sumX T.X k u + z.d) = sumX T.X k (u + 1) := by rw [hs1]; exact w64 (by omega) (by omega)
      (repeat ((first | refine n_must rfl ?_ | refine n_chk (drawF_ok (by decide +kernel)) ?_ | refine n_same rfl ?_ | ((first | refine n_must ?_ ?_ | refine n_brT ?_ ?_); (focus (first | (simp [hul]; done) | (simp [hul]; omega) | (simp only [hul]; simp; done)))) | (refine n_brF ?_ ?_; (focus (first | (simp [hul]; done) | (simp [hul]; omega) | (simp only [hul]; simp; done)))) | refine n_must (by (with_reducible refine and_shape ?_) <;> kernel_rfl) ?_); (refine gs ?_)))
      (refine n_ldA (.raw (.slice (T.S (u * 4 + k)).1 O.length (T.S (u * 4 + k)).2)) rfl (by first | exact trivial | rfl) rfl (fun _ w1 _ hI1 => (by rw [← hO]; exact load_cell aggVws9 (tk_had (memRes_res (hI1.res 0 rfl rfl) 0 rfl rfl) hj32 (by rw [Int.toNat_natCast, Int.toNat_natCast, add_mk2, add_mk2, add_mk2]; congr 1; show 0 + 1 + u * 4 + k * 1 = _; omega)))) ?_; (refine gs ?_))
      refine gw ?_
      refine n_br (fun hb => ?_) (fun hb => ?_)
      · have hb0 : 0 < O.length := by
          have := of_decide_eq_true hb
          omega
        obtain ⟨go, hgo⟩ := hsm hb0
        rw [hgo] at hrow
        have e1 : IntKind.i64.wrap ((O.length : Int) - 1) = ((O.length - 1 : Nat) : Int) := by rw [w64 (by omega) (by omega)]; omega
        have hz : O[O.length - 1]? = some z := by
          rw [hl1, List.getLast?_eq_getElem?, List.getElem?_eq_getElem (by omega)]; rfl
        have eb : isX T.X k (u + 1) = true := by rw [hb1, hl2, decide_eq_true (by omega : (0 : Int) < ((O.length : Nat) : Int)), Bool.or_true]
        rw [hgo]
        (refine gs ?_)
        (repeat ((first | refine n_must rfl ?_ | refine n_chk (drawF_ok (by decide +kernel)) ?_ | refine n_same rfl ?_ | ((first | refine n_must ?_ ?_ | refine n_brT ?_ ?_); (focus (first | (simp [e1]; done) | (simp [e1]; omega) | (simp only [e1]; simp; done)))) | (refine n_brF ?_ ?_; (focus (first | (simp [e1]; done) | (simp [e1]; omega) | (simp only [e1]; simp; done)))) | refine n_must (by (with_reducible refine and_shape ?_) <;> kernel_rfl) ?_); (refine gs ?_)))
        (refine n_ldA (.agg [.int .i64 z.d, .int .i64 z.u]) rfl (by first | exact trivial | rfl) rfl (fun _ w1 _ hI1 => load_row (l := [.int .i64 z.d, .int .i64 z.u]) aggRt9 sizeRt (fun j v hv => row_at (j := 4 + j) vw_len (all_at (memRes_res (hI1.res 0 rfl rfl) 3 rfl rfl) hrow) hz (by have := (rt_of hv).1; omega) (rt_of hv).2 (by rw [e1, Int.toNat_natCast, add_mk2, add_mk2, add_mk2, add_mk2]; congr 1; show 0 + (O.length - 1) * 7 + 4 + j = 0 + ((O.length - 1) * 7 + (4 + j)); omega))) ?_; (refine gs ?_))
        refine gw ?_
        refine n_build1 rfl rfl elemRt rfl rfl rfl rfl rfl rfl rfl rfl rfl ?_
        (refine gs ?_)
        refine gw ?_
        refine n_append (nv := rtL ((z).d, (z).u)) 1 rfl rfl elemRt hitt hpt.1 hpt.2.1 hpt.2.2 rfl (by omega) rfl rfl rfl rfl rfl rfl (by omega) (by simp [Value.oneCell']) (by omega) (by omega) hnx fun g2 c2 => ?_
        (refine gs ?_)
        refine gw ?_
        exact n_again ⟨(u + 1, some ⟨g2, 0, none⟩, c2), by dsimp only; omega, by dsimp only; omega, (by (repeat (first | exact trivial | refine ⟨⟨rfl, rfl⟩, ?_⟩ | refine ⟨⟨rfl, congrArg (SV.int .i64) eu⟩, ?_⟩ | refine ⟨⟨rfl, congrArg (SV.int .i64) es⟩, ?_⟩ | refine ⟨⟨rfl, by rw [eb]; rfl⟩, ?_⟩))), ⟨_, rfl⟩⟩
      · have hb0 : O = [] := by
          have := of_decide_eq_false hb
          have : O.length = 0 := by omega
          simpa using this
        subst hb0
        have hz0 : z = Vw.zero := hl1
        subst hz0
        have eb : isX T.X k (u + 1) = isX T.X k u := by rw [hb1]; simp [Vw.zero]
        (refine gs ?_)
        refine gw ?_
        refine n_build1 rfl rfl elemRt rfl rfl rfl rfl rfl rfl rfl rfl rfl ?_
        (refine gs ?_)
        refine gw ?_
        refine n_append (nv := rtL ((Vw.zero).d, (Vw.zero).u)) 1 rfl rfl elemRt hitt hpt.1 hpt.2.1 hpt.2.2 rfl (by omega) rfl rfl rfl rfl rfl rfl (by omega) (by simp [Value.oneCell']) (by omega) (by omega) hnx fun g2 c2 => ?_
        (refine gs ?_)
        refine gw ?_
        exact n_again ⟨(u + 1, some ⟨g2, 0, none⟩, c2), by dsimp only; omega, by dsimp only; omega, (by (repeat (first | exact trivial | refine ⟨⟨rfl, rfl⟩, ?_⟩ | refine ⟨⟨rfl, congrArg (SV.int .i64) eu⟩, ?_⟩ | refine ⟨⟨rfl, congrArg (SV.int .i64) es⟩, ?_⟩ | refine ⟨⟨rfl, congrArg litB eb.symm⟩, ?_⟩))), ⟨_, rfl⟩⟩
    · obtain rfl : u = n := by omega
      rename_i hnn
      (repeat ((first | refine n_must rfl ?_ | refine n_chk (drawF_ok (by decide +kernel)) ?_ | refine n_same rfl ?_ | ((first | refine n_must ?_ ?_ | refine n_brT ?_ ?_); (focus (first | (simp [hul]; done) | (simp [hul]; omega) | (simp only [hul]; simp; done)))) | (refine n_brF ?_ ?_; (focus (first | (simp [hul]; done) | (simp [hul]; omega) | (simp only [hul]; simp; done)))) | refine n_must (by (with_reducible refine and_shape ?_) <;> kernel_rfl) ?_); (refine gs ?_)))
      refine n_exit rfl ?_
      (refine gs ?_)
      refine gw ?_
      have hab := fun (w' : Nat) x (hx : T.X[w']? = some x) (hw : w' < u) => met_about hM hx hw hk4 u (Nat.le_refl _)
      have hkn : ∀ (w' : Nat) x, T.X[w']? = some x → w' < u → rKnownL x.r.All (nmK k) u = lastsX T.X k u := fun w' x hx hw => met_known hM hx hw hk4
      have hsb := sum_bound hT k u
      have hll : (lastsX T.X k u).length = u := by simp [lastsX]
      generalize hSM : sumX T.X k u = SM at hab hsb
      generalize hIX : isX T.X k u = IX at hab
      generalize hLS : lastsX T.X k u = LS at hkn hll
      cases IX with
      | true =>
        refine n_loop (σ := Nat) (fun v => [(6, .int .i64 (u : Nat)), (7, .raw (pV t)), (11, .int .i64 (k : Nat)), (12, .int .i64 SM), (13, .lit true), (14, .raw (.slice oo u oc)), (18, .int .i64 (v : Nat))]) (fun _ => [⟨41, [.res (tkRes t T)], true⟩, ⟨47, [.res (rowRes 47 2 oo u oc (LS.flatMap rtL))], true⟩]) (fun v => v ≤ u) (fun v => u - v) 0 mixed (by omega) (fun _ _ => rfl) rfl (by (repeat (first | exact trivial | refine ⟨⟨rfl, rfl⟩, ?_⟩))) (fun s _ => ⟨by (repeat (first | exact trivial | refine ⟨⟨_, rfl⟩, ?_⟩)), by (repeat (first | exact trivial | refine ⟨⟨_, rfl⟩, ?_⟩))⟩) fun v hv => ?_
        (refine gs ?_)
        by_cases hvl : v < u
        · have ev : IntKind.i64.wrap ((v : Int) + 1) = ((v + 1 : Nat) : Int) := by rw [w64 (by omega) (by omega)]; simp
          have hx : T.X[v]? = some (T.X[v]'(by omega)) := List.getElem?_eq_getElem _
          generalize (T.X[v]'(by omega)) = x at hx
          obtain ⟨hvx, hsx, hmx, hax⟩ := hT.ok.rel v x hx
          obtain ⟨ab1, ab2⟩ := hab v x hx hvl
          have kn := hkn v x hx hvl
          have hwr : wr SM = SM := w64 (by omega) (by omega)
          (repeat ((first | refine n_must rfl ?_ | refine n_chk (drawF_ok (by decide +kernel)) ?_ | refine n_same rfl ?_ | ((first | refine n_must ?_ ?_ | refine n_brT ?_ ?_); (focus (first | (simp [hvl]; done) | (simp [hvl]; omega) | (simp only [hvl]; simp; done)))) | (refine n_brF ?_ ?_; (focus (first | (simp [hvl]; done) | (simp [hvl]; omega) | (simp only [hvl]; simp; done)))) | refine n_must (by (with_reducible refine and_shape ?_) <;> kernel_rfl) ?_); (refine gs ?_)))
          (refine n_ldA (.raw (.slice (some ⟨gv, 0, none⟩) (T).X.length (T).vc)) rfl (by first | exact trivial | rfl) rfl (fun _ w1 _ hI1 => (by rw [← hvo]; exact load_cell aggVp (tk_v (memRes_res (hI1.res 0 rfl rfl) 0 rfl rfl) rfl))) ?_; (refine gs ?_))
          refine gw ?_
          (refine n_ldA (.raw (pV (x).v)) rfl (by first | exact trivial | rfl) rfl (fun _ w1 _ hI1 => load_cell aggPv (rowRes_cell (hvo ▸ memRes_res (hI1.res 0 rfl rfl) 1 rfl rfl) (by rw [Nat.mul_one, List.getElem?_map, Int.toNat_natCast, hx]; rfl))) ?_; (refine gs ?_))
          refine gw ?_
          refine n_sameP (.raw (.agg #[.string (nmK 0), .string (nmK 1), .string (nmK 2), .string (nmK 3)])) rfl rfl rfl (fun _ w1 hp1 hI1 => names_n w1) ?_; (refine gs ?_)
          refine gw ?_
          (refine n_ldA (.raw (pV x.v)) rfl (by first | exact trivial | rfl) rfl (fun _ w1 _ hI1 => load_cell aggPv (rowRes_cell (hvo ▸ memRes_res (hI1.res 0 rfl rfl) 1 rfl rfl) (by rw [Nat.mul_one, List.getElem?_map, Int.toNat_natCast, hx]; rfl))) ?_; (refine gs ?_))
          refine gw ?_
          (refine n_ldA (.raw (.slice (some ⟨gv, 0, none⟩) T.X.length T.vc)) rfl (by first | exact trivial | rfl) rfl (fun _ w1 _ hI1 => (by rw [← hvo]; exact load_cell aggVp (tk_v (memRes_res (hI1.res 0 rfl rfl) 0 rfl rfl) rfl))) ?_; (refine gs ?_))
          refine gw ?_
          rw [hgd]
          conv => arg 3; whnf
          refine gw ?_
          refine n_sameP (.tup [.int .i64 SM, .bool true]) rfl rfl rfl (fun _ w1 hp1 hI1 => (About_ok (tk_res (hI1.res 0 rfl rfl) hx) (nmK k) (nmK_len k hk4)).mono fun e w' ⟨he, hf⟩ => ⟨by
                      obtain ⟨a1, a2⟩ := about_like hvx (tk_res (hI1.res 0 rfl rfl) hx).2.1.nodup (nmK k)
                      rw [he, a1, a2, ab1, ab2, hwr], hf⟩) ?_; (refine gs ?_)
          refine gw ?_
          (refine n_ldA (.raw (.slice (some ⟨gv, 0, none⟩) (T).X.length (T).vc)) rfl (by first | exact trivial | rfl) rfl (fun _ w1 _ hI1 => (by rw [← hvo]; exact load_cell aggVp (tk_v (memRes_res (hI1.res 0 rfl rfl) 0 rfl rfl) rfl))) ?_; (refine gs ?_))
          refine gw ?_
          (refine n_ldA (.raw (pV (x).v)) rfl (by first | exact trivial | rfl) rfl (fun _ w1 _ hI1 => load_cell aggPv (rowRes_cell (hvo ▸ memRes_res (hI1.res 0 rfl rfl) 1 rfl rfl) (by rw [Nat.mul_one, List.getElem?_map, Int.toNat_natCast, hx]; rfl))) ?_; (refine gs ?_))
          refine gw ?_
          refine n_sameP (.raw (.agg #[.string (nmK 0), .string (nmK 1), .string (nmK 2), .string (nmK 3)])) rfl rfl rfl (fun _ w1 hp1 hI1 => names_n w1) ?_; (refine gs ?_)
          refine gw ?_
          (refine n_ldA (.raw (pV x.v)) rfl (by first | exact trivial | rfl) rfl (fun _ w1 _ hI1 => load_cell aggPv (rowRes_cell (hvo ▸ memRes_res (hI1.res 0 rfl rfl) 1 rfl rfl) (by rw [Nat.mul_one, List.getElem?_map, Int.toNat_natCast, hx]; rfl))) ?_; (refine gs ?_))
          refine gw ?_
          (refine n_ldA (.raw (.slice (some ⟨gv, 0, none⟩) T.X.length T.vc)) rfl (by first | exact trivial | rfl) rfl (fun _ w1 _ hI1 => (by rw [← hvo]; exact load_cell aggVp (tk_v (memRes_res (hI1.res 0 rfl rfl) 0 rfl rfl) rfl))) ?_; (refine gs ?_))
          refine gw ?_
          rw [hgd]
          conv => arg 3; whnf
          refine gw ?_
          have hKn : ∀ {w1 : World}, (tkRes t T).R w1 → Calls Try.prog 19 #[pV x.v, .string (nmK k)] w1 fun e w' => ∃ y : Nat, e = .returned (.slice (some ⟨y, 0, none⟩) u u) ∧ True ∧ FreshR w1 w' (cellsRes y (LS.flatMap rtL) 47) := fun hR1 => by
            have h := Known_ok (tk_res hR1 hx) (by rw [hvx.len]; omega) (nmK k) (nmK_len k hk4)
            rw [hvx.len, known_like hvx, kn] at h
            exact h
          refine n_callN (fun y : Nat => cellsRes y (LS.flatMap rtL) 47) 47 (fun y => .raw (.slice (some ⟨y, 0, none⟩) u u)) (fun y => .slice (some ⟨y, 0, none⟩) u u) (fun _ => True) rfl rfl rfl (fun _ => rfl) (fun w1 hI1 => hKn (hI1.res 0 rfl rfl)) ?_
          intro yk _ _
          (refine gs ?_)
          refine gw ?_
          refine n_loopF (P := ∃ g, oo = some ⟨g, 0, none⟩) (fun _ w1 _ hI1 => rowRes_some' (hI1.res 1 rfl rfl) (by omega)) fun hoo => ?_
          obtain ⟨go, rfl⟩ := hoo
          refine n_loop (σ := Nat) (fun j => [(6, .int .i64 (u : Nat)), (7, .raw (pV t)), (11, .int .i64 (k : Nat)), (12, .int .i64 SM), (13, .lit true), (14, .raw (.slice (some ⟨go, 0, none⟩) u oc)), (18, .int .i64 (v : Nat)), (21, .raw (.slice (some ⟨yk, 0, none⟩) u u)), (22, .int .i64 (j : Nat))]) (fun _ => [⟨41, [.res (tkRes t T)], true⟩, ⟨47, [.res (rowRes 47 2 (some ⟨go, 0, none⟩) u oc (LS.flatMap rtL))], true⟩, ⟨47, [.res (cellsRes yk (LS.flatMap rtL) 47)], true⟩]) (fun j => j ≤ u) (fun j => u - j) 0 mixed (by omega) (fun _ _ => rfl) rfl (by (repeat (first | exact trivial | refine ⟨⟨rfl, rfl⟩, ?_⟩))) (fun s _ => ⟨by (repeat (first | exact trivial | refine ⟨⟨_, rfl⟩, ?_⟩)), by (repeat (first | exact trivial | refine ⟨⟨_, rfl⟩, ?_⟩))⟩) fun j hj => ?_
          (refine gs ?_)
          by_cases hjl : j < u
          · have ej : IntKind.i64.wrap ((j : Int) + 1) = ((j + 1 : Nat) : Int) := by rw [w64 (by omega) (by omega)]; simp
            have hp : LS[j]? = some (LS[j]'(by omega)) := List.getElem?_eq_getElem _
            generalize (LS[j]'(by omega)) = p at hp
            (repeat ((first | refine n_must rfl ?_ | refine n_chk (drawF_ok (by decide +kernel)) ?_ | refine n_same rfl ?_ | ((first | refine n_must ?_ ?_ | refine n_brT ?_ ?_); (focus (first | (simp [hjl]; done) | (simp [hjl]; omega) | (simp only [hjl]; simp; done)))) | (refine n_brF ?_ ?_; (focus (first | (simp [hjl]; done) | (simp [hjl]; omega) | (simp only [hjl]; simp; done)))) | refine n_must (by (with_reducible refine and_shape ?_) <;> kernel_rfl) ?_); (refine gs ?_)))
            (refine n_ldA (.agg [.int .i64 p.1, .int .i64 p.2]) rfl (by first | exact trivial | rfl) rfl (fun _ w1 _ hI1 => load_row (l := rtL p) aggRt9 sizeRt (fun i v hv => cellsRes_at (hI1.res 2 rfl rfl) (j := j * 2 + i) (by rw [flat_at rt_len hp ((List.getElem?_eq_some_iff.1 hv).1)]; exact hv) (by rw [Int.toNat_natCast, add_add]))) ?_; (refine gs ?_))
            refine gw ?_
            (refine n_ldA (.agg [.int .i64 p.1, .int .i64 p.2]) rfl (by first | exact trivial | rfl) rfl (fun _ w1 _ hI1 => load_row (l := rtL p) aggRt9 sizeRt (fun i v hv => row_at rt_len (hI1.res 1 rfl rfl) hp ((List.getElem?_eq_some_iff.1 hv).1) hv (by rw [Int.toNat_natCast, add_add]))) ?_; (refine gs ?_))
            refine gw ?_
            refine n_sameP (.bool (decide (p = p))) rfl rfl rfl (fun _ w1 hp1 hI1 => sameR_ok p p w1) ?_; (refine gs ?_)
            have hpp : decide (p = p) = true := decide_eq_true rfl
            (repeat ((first | refine n_must rfl ?_ | refine n_chk (drawF_ok (by decide +kernel)) ?_ | refine n_same rfl ?_ | ((first | refine n_must ?_ ?_ | refine n_brT ?_ ?_); (focus (first | (simp [hpp]; done) | (simp [hpp]; omega) | (simp only [hpp]; simp; done)))) | (refine n_brF ?_ ?_; (focus (first | (simp [hpp]; done) | (simp [hpp]; omega) | (simp only [hpp]; simp; done)))) | refine n_must (by (with_reducible refine and_shape ?_) <;> kernel_rfl) ?_); (refine gs ?_)))
            exact n_again ⟨j + 1, by omega, by omega, (by (repeat (first | exact trivial | refine ⟨⟨rfl, rfl⟩, ?_⟩ | refine ⟨⟨rfl, congrArg (SV.int .i64) ej⟩, ?_⟩))), ⟨_, rfl⟩⟩
          · obtain rfl : j = u := by omega
            (repeat ((first | refine n_must rfl ?_ | refine n_chk (drawF_ok (by decide +kernel)) ?_ | refine n_same rfl ?_ | ((first | refine n_must ?_ ?_ | refine n_brT ?_ ?_); (focus (first | (simp [hjl]; done) | (simp [hjl]; omega) | (simp only [hjl]; simp; done)))) | (refine n_brF ?_ ?_; (focus (first | (simp [hjl]; done) | (simp [hjl]; omega) | (simp only [hjl]; simp; done)))) | refine n_must (by (with_reducible refine and_shape ?_) <;> kernel_rfl) ?_); (refine gs ?_)))
            refine n_exit rfl ?_
            (refine gs ?_)
            refine gw ?_
            exact n_again ⟨v + 1, by omega, by omega, (by (repeat (first | exact trivial | refine ⟨⟨rfl, rfl⟩, ?_⟩ | refine ⟨⟨rfl, congrArg (SV.int .i64) ev⟩, ?_⟩))), ⟨_, rfl⟩⟩
        · obtain rfl : v = u := by omega
          (repeat ((first | refine n_must rfl ?_ | refine n_chk (drawF_ok (by decide +kernel)) ?_ | refine n_same rfl ?_ | ((first | refine n_must ?_ ?_ | refine n_brT ?_ ?_); (focus (first | (simp [hvl]; done) | (simp [hvl]; omega) | (simp only [hvl]; simp; done)))) | (refine n_brF ?_ ?_; (focus (first | (simp [hvl]; done) | (simp [hvl]; omega) | (simp only [hvl]; simp; done)))) | refine n_must (by (with_reducible refine and_shape ?_) <;> kernel_rfl) ?_); (refine gs ?_)))
          refine n_exit rfl ?_
          (refine gs ?_)
          refine gw ?_
          exact n_again ⟨k + 1, by omega, by omega, (by (repeat (first | exact trivial | refine ⟨⟨rfl, rfl⟩, ?_⟩ | refine ⟨⟨rfl, congrArg (SV.int .i64) ek⟩, ?_⟩))), ⟨_, rfl⟩⟩
      | false =>
        refine n_loop (σ := Nat) (fun v => [(6, .int .i64 (u : Nat)), (7, .raw (pV t)), (11, .int .i64 (k : Nat)), (12, .int .i64 SM), (13, .lit false), (14, .raw (.slice oo u oc)), (18, .int .i64 (v : Nat))]) (fun _ => [⟨41, [.res (tkRes t T)], true⟩, ⟨47, [.res (rowRes 47 2 oo u oc (LS.flatMap rtL))], true⟩]) (fun v => v ≤ u) (fun v => u - v) 0 mixed (by omega) (fun _ _ => rfl) rfl (by (repeat (first | exact trivial | refine ⟨⟨rfl, rfl⟩, ?_⟩))) (fun s _ => ⟨by (repeat (first | exact trivial | refine ⟨⟨_, rfl⟩, ?_⟩)), by (repeat (first | exact trivial | refine ⟨⟨_, rfl⟩, ?_⟩))⟩) fun v hv => ?_
        (refine gs ?_)
        by_cases hvl : v < u
        · have ev : IntKind.i64.wrap ((v : Int) + 1) = ((v + 1 : Nat) : Int) := by rw [w64 (by omega) (by omega)]; simp
          have hx : T.X[v]? = some (T.X[v]'(by omega)) := List.getElem?_eq_getElem _
          generalize (T.X[v]'(by omega)) = x at hx
          obtain ⟨hvx, hsx, hmx, hax⟩ := hT.ok.rel v x hx
          obtain ⟨ab1, ab2⟩ := hab v x hx hvl
          have kn := hkn v x hx hvl
          have hwr : wr SM = SM := w64 (by omega) (by omega)
          (repeat ((first | refine n_must rfl ?_ | refine n_chk (drawF_ok (by decide +kernel)) ?_ | refine n_same rfl ?_ | ((first | refine n_must ?_ ?_ | refine n_brT ?_ ?_); (focus (first | (simp [hvl]; done) | (simp [hvl]; omega) | (simp only [hvl]; simp; done)))) | (refine n_brF ?_ ?_; (focus (first | (simp [hvl]; done) | (simp [hvl]; omega) | (simp only [hvl]; simp; done)))) | refine n_must (by (with_reducible refine and_shape ?_) <;> kernel_rfl) ?_); (refine gs ?_)))
          (refine n_ldA (.raw (.slice (some ⟨gv, 0, none⟩) (T).X.length (T).vc)) rfl (by first | exact trivial | rfl) rfl (fun _ w1 _ hI1 => (by rw [← hvo]; exact load_cell aggVp (tk_v (memRes_res (hI1.res 0 rfl rfl) 0 rfl rfl) rfl))) ?_; (refine gs ?_))
          refine gw ?_
          (refine n_ldA (.raw (pV (x).v)) rfl (by first | exact trivial | rfl) rfl (fun _ w1 _ hI1 => load_cell aggPv (rowRes_cell (hvo ▸ memRes_res (hI1.res 0 rfl rfl) 1 rfl rfl) (by rw [Nat.mul_one, List.getElem?_map, Int.toNat_natCast, hx]; rfl))) ?_; (refine gs ?_))
          refine gw ?_
          refine n_sameP (.raw (.agg #[.string (nmK 0), .string (nmK 1), .string (nmK 2), .string (nmK 3)])) rfl rfl rfl (fun _ w1 hp1 hI1 => names_n w1) ?_; (refine gs ?_)
          refine gw ?_
          (refine n_ldA (.raw (pV x.v)) rfl (by first | exact trivial | rfl) rfl (fun _ w1 _ hI1 => load_cell aggPv (rowRes_cell (hvo ▸ memRes_res (hI1.res 0 rfl rfl) 1 rfl rfl) (by rw [Nat.mul_one, List.getElem?_map, Int.toNat_natCast, hx]; rfl))) ?_; (refine gs ?_))
          refine gw ?_
          (refine n_ldA (.raw (.slice (some ⟨gv, 0, none⟩) T.X.length T.vc)) rfl (by first | exact trivial | rfl) rfl (fun _ w1 _ hI1 => (by rw [← hvo]; exact load_cell aggVp (tk_v (memRes_res (hI1.res 0 rfl rfl) 0 rfl rfl) rfl))) ?_; (refine gs ?_))
          refine gw ?_
          rw [hgd]
          conv => arg 3; whnf
          refine gw ?_
          refine n_sameP (.tup [.int .i64 SM, .bool false]) rfl rfl rfl (fun _ w1 hp1 hI1 => (About_ok (tk_res (hI1.res 0 rfl rfl) hx) (nmK k) (nmK_len k hk4)).mono fun e w' ⟨he, hf⟩ => ⟨by
                      obtain ⟨a1, a2⟩ := about_like hvx (tk_res (hI1.res 0 rfl rfl) hx).2.1.nodup (nmK k)
                      rw [he, a1, a2, ab1, ab2, hwr], hf⟩) ?_; (refine gs ?_)
          refine gw ?_
          (refine n_ldA (.raw (.slice (some ⟨gv, 0, none⟩) (T).X.length (T).vc)) rfl (by first | exact trivial | rfl) rfl (fun _ w1 _ hI1 => (by rw [← hvo]; exact load_cell aggVp (tk_v (memRes_res (hI1.res 0 rfl rfl) 0 rfl rfl) rfl))) ?_; (refine gs ?_))
          refine gw ?_
          (refine n_ldA (.raw (pV (x).v)) rfl (by first | exact trivial | rfl) rfl (fun _ w1 _ hI1 => load_cell aggPv (rowRes_cell (hvo ▸ memRes_res (hI1.res 0 rfl rfl) 1 rfl rfl) (by rw [Nat.mul_one, List.getElem?_map, Int.toNat_natCast, hx]; rfl))) ?_; (refine gs ?_))
          refine gw ?_
          refine n_sameP (.raw (.agg #[.string (nmK 0), .string (nmK 1), .string (nmK 2), .string (nmK 3)])) rfl rfl rfl (fun _ w1 hp1 hI1 => names_n w1) ?_; (refine gs ?_)
          refine gw ?_
          (refine n_ldA (.raw (pV x.v)) rfl (by first | exact trivial | rfl) rfl (fun _ w1 _ hI1 => load_cell aggPv (rowRes_cell (hvo ▸ memRes_res (hI1.res 0 rfl rfl) 1 rfl rfl) (by rw [Nat.mul_one, List.getElem?_map, Int.toNat_natCast, hx]; rfl))) ?_; (refine gs ?_))
          refine gw ?_
          (refine n_ldA (.raw (.slice (some ⟨gv, 0, none⟩) T.X.length T.vc)) rfl (by first | exact trivial | rfl) rfl (fun _ w1 _ hI1 => (by rw [← hvo]; exact load_cell aggVp (tk_v (memRes_res (hI1.res 0 rfl rfl) 0 rfl rfl) rfl))) ?_; (refine gs ?_))
          refine gw ?_
          rw [hgd]
          conv => arg 3; whnf
          refine gw ?_
          have hKn : ∀ {w1 : World}, (tkRes t T).R w1 → Calls Try.prog 19 #[pV x.v, .string (nmK k)] w1 fun e w' => ∃ y : Nat, e = .returned (.slice (some ⟨y, 0, none⟩) u u) ∧ True ∧ FreshR w1 w' (cellsRes y (LS.flatMap rtL) 47) := fun hR1 => by
            have h := Known_ok (tk_res hR1 hx) (by rw [hvx.len]; omega) (nmK k) (nmK_len k hk4)
            rw [hvx.len, known_like hvx, kn] at h
            exact h
          refine n_callN (fun y : Nat => cellsRes y (LS.flatMap rtL) 47) 47 (fun y => .raw (.slice (some ⟨y, 0, none⟩) u u)) (fun y => .slice (some ⟨y, 0, none⟩) u u) (fun _ => True) rfl rfl rfl (fun _ => rfl) (fun w1 hI1 => hKn (hI1.res 0 rfl rfl)) ?_
          intro yk _ _
          (refine gs ?_)
          refine gw ?_
          refine n_loopF (P := ∃ g, oo = some ⟨g, 0, none⟩) (fun _ w1 _ hI1 => rowRes_some' (hI1.res 1 rfl rfl) (by omega)) fun hoo => ?_
          obtain ⟨go, rfl⟩ := hoo
          refine n_loop (σ := Nat) (fun j => [(6, .int .i64 (u : Nat)), (7, .raw (pV t)), (11, .int .i64 (k : Nat)), (12, .int .i64 SM), (13, .lit false), (14, .raw (.slice (some ⟨go, 0, none⟩) u oc)), (18, .int .i64 (v : Nat)), (21, .raw (.slice (some ⟨yk, 0, none⟩) u u)), (22, .int .i64 (j : Nat))]) (fun _ => [⟨41, [.res (tkRes t T)], true⟩, ⟨47, [.res (rowRes 47 2 (some ⟨go, 0, none⟩) u oc (LS.flatMap rtL))], true⟩, ⟨47, [.res (cellsRes yk (LS.flatMap rtL) 47)], true⟩]) (fun j => j ≤ u) (fun j => u - j) 0 mixed (by omega) (fun _ _ => rfl) rfl (by (repeat (first | exact trivial | refine ⟨⟨rfl, rfl⟩, ?_⟩))) (fun s _ => ⟨by (repeat (first | exact trivial | refine ⟨⟨_, rfl⟩, ?_⟩)), by (repeat (first | exact trivial | refine ⟨⟨_, rfl⟩, ?_⟩))⟩) fun j hj => ?_
          (refine gs ?_)
          by_cases hjl : j < u
          · have ej : IntKind.i64.wrap ((j : Int) + 1) = ((j + 1 : Nat) : Int) := by rw [w64 (by omega) (by omega)]; simp
            have hp : LS[j]? = some (LS[j]'(by omega)) := List.getElem?_eq_getElem _
            generalize (LS[j]'(by omega)) = p at hp
            (repeat ((first | refine n_must rfl ?_ | refine n_chk (drawF_ok (by decide +kernel)) ?_ | refine n_same rfl ?_ | ((first | refine n_must ?_ ?_ | refine n_brT ?_ ?_); (focus (first | (simp [hjl]; done) | (simp [hjl]; omega) | (simp only [hjl]; simp; done)))) | (refine n_brF ?_ ?_; (focus (first | (simp [hjl]; done) | (simp [hjl]; omega) | (simp only [hjl]; simp; done)))) | refine n_must (by (with_reducible refine and_shape ?_) <;> kernel_rfl) ?_); (refine gs ?_)))
            (refine n_ldA (.agg [.int .i64 p.1, .int .i64 p.2]) rfl (by first | exact trivial | rfl) rfl (fun _ w1 _ hI1 => load_row (l := rtL p) aggRt9 sizeRt (fun i v hv => cellsRes_at (hI1.res 2 rfl rfl) (j := j * 2 + i) (by rw [flat_at rt_len hp ((List.getElem?_eq_some_iff.1 hv).1)]; exact hv) (by rw [Int.toNat_natCast, add_add]))) ?_; (refine gs ?_))
            refine gw ?_
            (refine n_ldA (.agg [.int .i64 p.1, .int .i64 p.2]) rfl (by first | exact trivial | rfl) rfl (fun _ w1 _ hI1 => load_row (l := rtL p) aggRt9 sizeRt (fun i v hv => row_at rt_len (hI1.res 1 rfl rfl) hp ((List.getElem?_eq_some_iff.1 hv).1) hv (by rw [Int.toNat_natCast, add_add]))) ?_; (refine gs ?_))
            refine gw ?_
            refine n_sameP (.bool (decide (p = p))) rfl rfl rfl (fun _ w1 hp1 hI1 => sameR_ok p p w1) ?_; (refine gs ?_)
            have hpp : decide (p = p) = true := decide_eq_true rfl
            (repeat ((first | refine n_must rfl ?_ | refine n_chk (drawF_ok (by decide +kernel)) ?_ | refine n_same rfl ?_ | ((first | refine n_must ?_ ?_ | refine n_brT ?_ ?_); (focus (first | (simp [hpp]; done) | (simp [hpp]; omega) | (simp only [hpp]; simp; done)))) | (refine n_brF ?_ ?_; (focus (first | (simp [hpp]; done) | (simp [hpp]; omega) | (simp only [hpp]; simp; done)))) | refine n_must (by (with_reducible refine and_shape ?_) <;> kernel_rfl) ?_); (refine gs ?_)))
            exact n_again ⟨j + 1, by omega, by omega, (by (repeat (first | exact trivial | refine ⟨⟨rfl, rfl⟩, ?_⟩ | refine ⟨⟨rfl, congrArg (SV.int .i64) ej⟩, ?_⟩))), ⟨_, rfl⟩⟩
          · obtain rfl : j = u := by omega
            (repeat ((first | refine n_must rfl ?_ | refine n_chk (drawF_ok (by decide +kernel)) ?_ | refine n_same rfl ?_ | ((first | refine n_must ?_ ?_ | refine n_brT ?_ ?_); (focus (first | (simp [hjl]; done) | (simp [hjl]; omega) | (simp only [hjl]; simp; done)))) | (refine n_brF ?_ ?_; (focus (first | (simp [hjl]; done) | (simp [hjl]; omega) | (simp only [hjl]; simp; done)))) | refine n_must (by (with_reducible refine and_shape ?_) <;> kernel_rfl) ?_); (refine gs ?_)))
            refine n_exit rfl ?_
            (refine gs ?_)
            refine gw ?_
            exact n_again ⟨v + 1, by omega, by omega, (by (repeat (first | exact trivial | refine ⟨⟨rfl, rfl⟩, ?_⟩ | refine ⟨⟨rfl, congrArg (SV.int .i64) ev⟩, ?_⟩))), ⟨_, rfl⟩⟩
        · obtain rfl : v = u := by omega
          (repeat ((first | refine n_must rfl ?_ | refine n_chk (drawF_ok (by decide +kernel)) ?_ | refine n_same rfl ?_ | ((first | refine n_must ?_ ?_ | refine n_brT ?_ ?_); (focus (first | (simp [hvl]; done) | (simp [hvl]; omega) | (simp only [hvl]; simp; done)))) | (refine n_brF ?_ ?_; (focus (first | (simp [hvl]; done) | (simp [hvl]; omega) | (simp only [hvl]; simp; done)))) | refine n_must (by (with_reducible refine and_shape ?_) <;> kernel_rfl) ?_); (refine gs ?_)))
          refine n_exit rfl ?_
          (refine gs ?_)
          refine gw ?_
          exact n_again ⟨k + 1, by omega, by omega, (by (repeat (first | exact trivial | refine ⟨⟨rfl, rfl⟩, ?_⟩ | refine ⟨⟨rfl, congrArg (SV.int .i64) ek⟩, ?_⟩))), ⟨_, rfl⟩⟩
  · obtain rfl : k = 4 := by omega
    refine gw ?_
    refine n_exit rfl ?_
    (refine gs ?_)
    refine gw ?_
    exact n_ret0 rfl rfl fun ids' w' hp hI' => ⟨rfl, hI'.frm⟩
end Go.Proofs.Ytcpecnpnnodfhaa
