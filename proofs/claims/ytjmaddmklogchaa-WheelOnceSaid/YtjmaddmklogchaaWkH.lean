/- Package wheel: slices.IndexFunc, slices.DeleteFunc at timers; Cancel. -/
import Derived.Test.YtjmaddmklogchaaWkF
set_option maxRecDepth 100000
set_option linter.unusedSimpArgs false
set_option linter.unusedVariables false
set_option maxHeartbeats 8000000
namespace Go.Proofs.Ytjmaddmklogchaa
open Go.RowKit
open Go.Maps (Keyed)

theorem clo_ok {y : Nat} {v : Int} (x : Tm) {w : World} (hy : Blk w y [Value.int .i64 v].toArray 3) :
    Calls Try.prog 30 #[x.val, pV y] w fun e w' => e = .returned (.bool (decide (x.num = v))) ∧ Frm [] w w' := by
  have hI := Inv.nil (P := Try.prog) (N := 8) (S := []) (os := []) w
  refine calls_sm (cx 8 [] [] w) (vals := [.agg x.sv, .raw (pV y)]) mixed Try.func30 rfl rfl rfl hI rfl (st rfl ?_); conv => arg 3; whnf
  refine gw ?_
  (refine n_ldA (.int .i64 v) rfl (by first | exact trivial | rfl) rfl (fun _ w1 _ hI1 => load_cell aggInt (blk_at (l := [Value.int .i64 v]) ((hI1.frm.block y hy.lt (by simp)).trans hy) (j := 0) rfl rfl)) ?_; (refine gs ?_))
  refine gw ?_
  refine n_ret0 rfl rfl fun ids' w' hp hI' => ⟨ret_bool rfl, hI'.frm⟩
theorem zeroTm_one : ∀ v ∈ (Value.agg #[.int .i64 0, .int .i64 0, .int .i64 0, .int .i64 0]).cells.toList, v.oneCell' = true := fun v hv => by
  simp [Value.cells] at hv
  subst hv
  rfl
def numN (v : Int) (t : Tm) : Bool := decide (t.num ≠ v)
def idxT (v : Int) (L : List Tm) : Int := match L.findIdx? fun t => decide (t.num = v) with | some i => i | none => -1
theorem idx_ok {o : Option Addr} {n cap y : Nat} {v : Int} {L : List Tm} {w : World} (hl : L.length = n) (hn : n ≤ 1000000) (hR : (tRow o n cap (tms L)).R w) (hy : Blk w y [Value.int .i64 v].toArray 3) :
    Calls Try.prog 39 #[.slice o n cap, .func (.func 30) #[] #[pV y]] w fun e w' => e = .returned (.int .i64 (idxT v L)) ∧ Frm [] w w' := by
  have hI := Inv.nil (P := Try.prog) (N := 19) (S := []) (os := []) w
  have h1 : ∀ w1, Frm [] w w1 → (readRes o (tms L)).R w1 := fun w1 hf => (readRes o (tms L)).stable _ _ (fun k hk => hf.block k (rd_lt (rd_of_row hR) k hk) (by simp)) (rd_of_row hR)
  have h2 : ∀ w1, Frm [] w w1 → Blk w1 y [Value.int .i64 v].toArray 3 := fun w1 hf => (hf.block y hy.lt (by simp)).trans hy
  refine calls_sm (cx 19 [] [] w) (vals := [.raw (.slice o n cap), .fn (.func 30) [] [.raw (pV y)]]) mixed Try.func39 rfl rfl rfl hI rfl (st rfl ?_); conv => arg 3; whnf
  refine gw ?_
  refine n_loop (σ := Nat) (fun i => [(0, .raw (.slice o n cap)), (1, .fn (.func 30) [] [.raw (pV y)]), (7, .int .i64 (n : Nat)), (8, .int .i64 (i : Nat))]) (fun _ => []) (fun i => i ≤ n ∧ ∀ t ∈ L.take i, ¬ t.num = v) (fun i => n - i) 0 mixed ⟨by omega, by simp⟩ (fun _ _ => rfl) rfl (by (repeat (first | exact trivial | refine ⟨⟨rfl, rfl⟩, ?_⟩))) (fun s _ => ⟨by (repeat (first | exact trivial | refine ⟨⟨_, rfl⟩, ?_⟩)), by (repeat (first | exact trivial | refine ⟨⟨_, rfl⟩, ?_⟩))⟩) fun i hJ => ?_
  obtain ⟨hi, hJ⟩ := hJ
  (refine gs ?_)
  by_cases hlt : i < n
  · have ei : IntKind.i64.wrap ((i : Int) + 1) = ((i + 1 : Nat) : Int) := by rw [w64 (by omega) (by omega)]; simp
    obtain ⟨g, rfl⟩ := rowRes_some' hR (by omega)
    have hx : L[i]? = some L[i] := List.getElem?_eq_getElem _
    generalize L[i] = x at hx
    (repeat ((first | refine n_must rfl ?_ | refine n_chk (drawF_ok (by decide +kernel)) ?_ | refine n_same rfl ?_ | ((first | refine n_must ?_ ?_ | refine n_brT ?_ ?_); (focus (first | (simp [hlt]; done) | (simp [hlt]; omega) | (simp only [hlt]; simp; done)))) | (refine n_brF ?_ ?_; (focus (first | (simp [hlt]; done) | (simp [hlt]; omega) | (simp only [hlt]; simp; done)))) | refine n_must (by (with_reducible refine and_shape ?_) <;> kernel_rfl) ?_); (refine gs ?_)))
    (refine n_ldA (.agg x.sv) rfl (by first | exact trivial | rfl) rfl (fun _ w1 _ hI1 => tm_load (h1 _ hI1.frm) hx rfl) ?_; (refine gs ?_))
    refine gw ?_
    refine n_sameP (.bool (decide (x.num = v))) rfl rfl rfl (fun _ w1 hp1 hI1 => clo_ok x (h2 _ hI1.frm)) ?_; (refine gs ?_)
    by_cases hv : x.num = v
    · (repeat ((first | refine n_must rfl ?_ | refine n_chk (drawF_ok (by decide +kernel)) ?_ | refine n_same rfl ?_ | ((first | refine n_must ?_ ?_ | refine n_brT ?_ ?_); (focus (first | (simp [hv]; done) | (simp [hv]; omega) | (simp only [hv]; simp; done)))) | (refine n_brF ?_ ?_; (focus (first | (simp [hv]; done) | (simp [hv]; omega) | (simp only [hv]; simp; done)))) | refine n_must (by (with_reducible refine and_shape ?_) <;> kernel_rfl) ?_); (refine gs ?_)))
      refine n_leave ?_
      refine n_ret0 rfl rfl fun ids' w' hp hI' => ⟨ret_int ?_, hI'.frm⟩
      have : L.findIdx? (fun t => decide (t.num = v)) = some i := by
        obtain ⟨hi2, hxi⟩ := List.getElem?_eq_some_iff.1 hx
        rw [List.findIdx?_eq_some_iff_getElem]
        refine ⟨hi2, by rw [hxi]; simpa using hv, fun j hj => ?_⟩
        have := hJ L[j] (List.mem_take_iff_getElem.2 ⟨j, by omega, rfl⟩)
        simpa using this
      simp [idxT, this]
    · (repeat ((first | refine n_must rfl ?_ | refine n_chk (drawF_ok (by decide +kernel)) ?_ | refine n_same rfl ?_ | ((first | refine n_must ?_ ?_ | refine n_brT ?_ ?_); (focus (first | (simp [hv]; done) | (simp [hv]; omega) | (simp only [hv]; simp; done)))) | (refine n_brF ?_ ?_; (focus (first | (simp [hv]; done) | (simp [hv]; omega) | (simp only [hv]; simp; done)))) | refine n_must (by (with_reducible refine and_shape ?_) <;> kernel_rfl) ?_); (refine gs ?_)))
      refine n_again ⟨i + 1, ⟨by omega, fun t ht => ?_⟩, by omega, (by (repeat (first | exact trivial | refine ⟨⟨rfl, rfl⟩, ?_⟩ | refine ⟨⟨rfl, congrArg (SV.int .i64) ei⟩, ?_⟩))), ⟨_, rfl⟩⟩
      rw [t_next hx] at ht
      rcases List.mem_append.1 ht with ht | ht
      · exact hJ t ht
      · simp at ht; subst ht; exact hv
  · obtain rfl : i = n := by omega
    refine gw ?_
    refine n_exit rfl ?_
    (refine gs ?_)
    refine gw ?_
    refine n_ret0 rfl rfl fun ids' w' hp hI' => ⟨ret_int ?_, hI'.frm⟩
    have : L.findIdx? (fun t => decide (t.num = v)) = none := by
      rw [List.findIdx?_eq_none_iff]
      intro t ht
      have := hJ t (by rw [← hl, List.take_length]; exact ht)
      simpa using this
    simp [idxT, this]

theorem tms_take (L : List Tm) (k : Nat) : (tms L).take (k * 4) = tms (L.take k) := by
  induction L generalizing k with
  | nil => simp [tms]
  | cons t L ih =>
    cases k with
    | zero => simp [tms]
    | succ k =>
      have : (k + 1) * 4 = k * 4 + 4 := by omega
      rw [this]
      simp only [tms, List.flatMap_cons, List.take_succ_cons] at *
      rw [← ih k]
      rfl
/-- The timers kept of the first j. -/
def kp (v : Int) (L : List Tm) (j : Nat) : List Tm := (L.take j).filter (numN v)
theorem kp_le {v : Int} {L : List Tm} {j : Nat} : (kp v L j).length ≤ j := Nat.le_trans (List.length_filter_le _ _) (List.length_take_le _ _)
theorem kp_in {v : Int} {L : List Tm} {j : Nat} {x : Tm} (h : L[j]? = some x) (hx : x.num ≠ v) : kp v L (j + 1) = kp v L j ++ [x] := by
  unfold kp; rw [t_next h, List.filter_append]; simp [numN, hx]
theorem kp_out {v : Int} {L : List Tm} {j : Nat} {x : Tm} (h : L[j]? = some x) (hx : x.num = v) : kp v L (j + 1) = kp v L j := by
  unfold kp; rw [t_next h, List.filter_append]; simp [numN, hx]
theorem kp_all {v : Int} {L : List Tm} : kp v L L.length = L.filter (numN v) := by unfold kp; rw [List.take_length]
theorem wDel_ok {o : Option Addr} {n cap y : Nat} {v : Int} {L : List Tm} {w : World} (hl : L.length = n) (hn : n ≤ 1000000) (hR : (tRow o n cap (tms L)).R w) (hy : Blk w y [Value.int .i64 v].toArray 3) (hyn : y ∉ (tRow o n cap (tms L)).fp) :
    Calls Try.prog 29 #[.slice o n cap, .func (.func 30) #[] #[pV y]] w fun e w' => e = .returned (.slice o (L.filter (numN v)).length cap) ∧ Post (tRow o n cap (tms L)) (tRow o (L.filter (numN v)).length cap (tms (L.filter (numN v)))) w w' := by
  have hI : Inv (cx 42 [] (tRow o n cap (tms L)).fp w) w [0] [⟨54, [.res (tRow o n cap (tms L))], true⟩] := (Inv.nil w).consR (by simp) hR (rowRes_lt hR) (by simp)
  have h2 : ∀ w1, Frm (tRow o n cap (tms L)).fp w w1 → Blk w1 y [Value.int .i64 v].toArray 3 := fun w1 hf => (hf.block y hy.lt hyn).trans hy
  obtain ⟨itt, hitt, hpt⟩ := Option.map_eq_some_iff.1 infoTm
  simp only [Prod.mk.injEq] at hpt
  refine calls_sm (cx 42 [] (tRow o n cap (tms L)).fp w) (vals := [.raw (.slice o n cap), .fn (.func 30) [] [.raw (pV y)]]) mixed Try.func29 rfl rfl rfl hI rfl (st rfl ?_); conv => arg 3; whnf
  refine gw ?_
  refine n_sameP (.int .i64 (idxT v L)) rfl rfl rfl (fun _ w1 hp1 hI1 => idx_ok hl hn (hI1.res 0 rfl rfl) (h2 _ hI1.frm)) ?_; (refine gs ?_)
  cases hf : L.findIdx? fun t => decide (t.num = v) with
  | none =>
    have hi : idxT v L = -1 := by simp [idxT, hf]
    have hF : L.filter (numN v) = L := by
      rw [List.filter_eq_self]
      intro t ht
      rw [List.findIdx?_eq_none_iff] at hf
      simpa [numN] using hf t ht
    (repeat ((first | refine n_must rfl ?_ | refine n_chk (drawF_ok (by decide +kernel)) ?_ | refine n_same rfl ?_ | ((first | refine n_must ?_ ?_ | refine n_brT ?_ ?_); (focus (first | (simp [hi]; done) | (simp [hi]; omega) | (simp only [hi]; simp; done)))) | (refine n_brF ?_ ?_; (focus (first | (simp [hi]; done) | (simp [hi]; omega) | (simp only [hi]; simp; done)))) | refine n_must (by (with_reducible refine and_shape ?_) <;> kernel_rfl) ?_); (refine gs ?_)))
    refine n_ret0 rfl rfl fun ids' w' hp hI' => ⟨by rw [hF, hl], ?_⟩
    rw [hF, hl]
    exact post_res (ρ := tRow o n cap (tms L)) (ρ' := tRow o n cap (tms L)) hI' rfl 0 rfl rfl rfl
  | some i0 =>
    obtain ⟨hi0, hv0, hbef⟩ := List.findIdx?_eq_some_iff_getElem.1 hf
    have hi : idxT v L = (i0 : Int) := by simp [idxT, hf]
    have hne1 : ¬ (i0 : Int) = -1 := by omega
    have hv0 : L[i0].num = v := by simpa using hv0
    have hx0 : L[i0]? = some L[i0] := List.getElem?_eq_getElem _
    have hk0 : kp v L (i0 + 1) = L.take i0 := by
      rw [kp_out hx0 hv0]
      unfold kp
      rw [List.filter_eq_self]
      intro t ht
      obtain ⟨j, hj, rfl⟩ := List.mem_take_iff_getElem.1 ht
      have := hbef j (by omega)
      simpa [numN] using this
    have e0 : IntKind.i64.wrap ((i0 : Int) + 1) = ((i0 + 1 : Nat) : Int) := by rw [w64 (by omega) (by omega)]; simp
    have hk0l : (kp v L (i0 + 1)).length = i0 := by rw [hk0, List.length_take]; omega
    obtain ⟨g, rfl⟩ := rowRes_some' hR (by omega)
    have hcap : n ≤ cap := row_cap hR (by omega)
    have hi5 : SV.int IntKind.i64 (idxT v L) = .int .i64 ((kp v L (i0 + 1)).length : Nat) := by rw [hi, hk0l]
    have hi6 : SV.int IntKind.i64 (IntKind.i64.wrap (idxT v L + 1)) = .int .i64 ((i0 + 1 : Nat) : Int) := by rw [hi, e0]
    (repeat ((first | refine n_must rfl ?_ | refine n_chk (drawF_ok (by decide +kernel)) ?_ | refine n_same rfl ?_ | ((first | refine n_must ?_ ?_ | refine n_brT ?_ ?_); (focus (first | (simp [hi, hne1]; done) | (simp [hi, hne1]; omega) | (simp only [hi, hne1]; simp; done)))) | (refine n_brF ?_ ?_; (focus (first | (simp [hi, hne1]; done) | (simp [hi, hne1]; omega) | (simp only [hi, hne1]; simp; done)))) | refine n_must (by (with_reducible refine and_shape ?_) <;> kernel_rfl) ?_); (refine gs ?_)))
    refine n_loop (σ := Nat × List Tm) (fun t => [(0, .raw (.slice (some ⟨g, 0, none⟩) n cap)), (1, .fn (.func 30) [] [.raw (pV y)]), (5, .int .i64 ((kp v L t.1).length : Nat)), (6, .int .i64 (t.1 : Nat))]) (fun t => [⟨54, [.res (tRow (some ⟨g, 0, none⟩) n cap (tms t.2))], true⟩]) (fun t => t.1 ≤ n ∧ t.2.length = n ∧ (kp v L t.1).length < t.1 ∧ t.2.take (kp v L t.1).length = kp v L t.1 ∧ t.2.drop t.1 = L.drop t.1) (fun t => n - t.1) (i0 + 1, L) mixed ⟨by dsimp only; omega, hl, by dsimp only; omega, by dsimp only; rw [hk0l, hk0], rfl⟩ (fun _ _ => rfl) rfl (by (repeat (first | exact trivial | refine ⟨⟨rfl, rfl⟩, ?_⟩ | refine ⟨⟨rfl, hi5⟩, ?_⟩ | refine ⟨⟨rfl, hi6⟩, ?_⟩))) (fun s _ => ⟨by (repeat (first | exact trivial | refine ⟨⟨_, rfl⟩, ?_⟩)), by (repeat (first | exact trivial | refine ⟨⟨_, rfl⟩, ?_⟩))⟩) fun t ht => ?_
    obtain ⟨j, R⟩ := t
    obtain ⟨hj, hRl, hkj, hRt, hRd⟩ := ht
    dsimp only at hj hRl hkj hRt hRd ⊢
    (refine gs ?_)
    by_cases hjn : j < n
    · have ej : IntKind.i64.wrap ((j : Int) + 1) = ((j + 1 : Nat) : Int) := by rw [w64 (by omega) (by omega)]; simp
      have ek : IntKind.i64.wrap (((kp v L j).length : Int) + 1) = (((kp v L j).length + 1 : Nat) : Int) := by rw [w64 (by omega) (by omega)]; simp
      have hx : L[j]? = some L[j] := List.getElem?_eq_getElem _
      generalize L[j] = x at hx
      have hxR : R[j]? = some x := by
        have h1 : (R.drop j)[0]? = (L.drop j)[0]? := by rw [hRd]
        rw [List.getElem?_drop, List.getElem?_drop, Nat.add_zero] at h1
        rw [h1, hx]
      have hRd1 : R.drop (j + 1) = L.drop (j + 1) := by
        rw [← List.drop_drop, ← List.drop_drop, hRd]
      (repeat ((first | refine n_must rfl ?_ | refine n_chk (drawF_ok (by decide +kernel)) ?_ | refine n_same rfl ?_ | ((first | refine n_must ?_ ?_ | refine n_brT ?_ ?_); (focus (first | (simp [hjn]; done) | (simp [hjn]; omega) | (simp only [hjn]; simp; done)))) | (refine n_brF ?_ ?_; (focus (first | (simp [hjn]; done) | (simp [hjn]; omega) | (simp only [hjn]; simp; done)))) | refine n_must (by (with_reducible refine and_shape ?_) <;> kernel_rfl) ?_); (refine gs ?_)))
      (refine n_ldA (.agg x.sv) rfl (by first | exact trivial | rfl) rfl (fun _ w1 _ hI1 => tm_load (rd_of_row (hI1.res 0 rfl rfl)) hxR rfl) ?_; (refine gs ?_))
      refine gw ?_
      refine n_sameP (.bool (decide (x.num = v))) rfl rfl rfl (fun _ w1 hp1 hI1 => clo_ok x (h2 _ hI1.frm)) ?_; (refine gs ?_)
      by_cases hv : x.num = v
      · have hk := kp_out hx hv
        (repeat ((first | refine n_must rfl ?_ | refine n_chk (drawF_ok (by decide +kernel)) ?_ | refine n_same rfl ?_ | ((first | refine n_must ?_ ?_ | refine n_brT ?_ ?_); (focus (first | (simp [hv]; done) | (simp [hv]; omega) | (simp only [hv]; simp; done)))) | (refine n_brF ?_ ?_; (focus (first | (simp [hv]; done) | (simp [hv]; omega) | (simp only [hv]; simp; done)))) | refine n_must (by (with_reducible refine and_shape ?_) <;> kernel_rfl) ?_); (refine gs ?_)))
        refine n_again ⟨(j + 1, R), ⟨by dsimp only; omega, hRl, by dsimp only; rw [hk]; omega, by dsimp only; rw [hk]; exact hRt, hRd1⟩, by dsimp only; omega, ?_, ⟨_, rfl⟩⟩
        dsimp only
        rw [hk]
        exact (by (repeat (first | exact trivial | refine ⟨⟨rfl, rfl⟩, ?_⟩ | refine ⟨⟨rfl, congrArg (SV.int .i64) ej⟩, ?_⟩)))
      · have hk := kp_in hx hv
        have hkl : (kp v L (j + 1)).length = (kp v L j).length + 1 := by rw [hk]; simp
        have hkn : (kp v L j).length < n := by omega
        (repeat ((first | refine n_must rfl ?_ | refine n_chk (drawF_ok (by decide +kernel)) ?_ | refine n_same rfl ?_ | ((first | refine n_must ?_ ?_ | refine n_brT ?_ ?_); (focus (first | (simp [hv, hkn]; done) | (simp [hv, hkn]; omega) | (simp only [hv, hkn]; simp; done)))) | (refine n_brF ?_ ?_; (focus (first | (simp [hv, hkn]; done) | (simp [hv, hkn]; omega) | (simp only [hv, hkn]; simp; done)))) | refine n_must (by (with_reducible refine and_shape ?_) <;> kernel_rfl) ?_); (refine gs ?_)))
        refine n_storeRow (g := g) (off := (kp v L j).length * 4) (k := 4) (rv := .agg x.sv) (v := x.val) 0 (tms (R.set (kp v L j).length x)) rfl rfl rfl ((show _ = (⟨g, 0, none⟩ : Addr).add ((kp v L j).length * 4) from rfl).trans (by rw [add_mk])) rfl rfl sizeTm rfl rfl rfl (by rw [tms_len, hRl]; omega) (flat_set tm_len (by omega)) ?_
        (refine gs ?_)
        refine gw ?_
        refine n_again ⟨(j + 1, R.set (kp v L j).length x), ⟨by dsimp only; omega, by simpa using hRl, by dsimp only; omega, ?_, ?_⟩, by dsimp only; omega, ?_, ⟨_, rfl⟩⟩
        · dsimp only
          rw [hkl, hk, List.take_add_one, List.getElem?_set_self (by omega), List.take_set_of_le (Nat.le_refl _), hRt]
          rfl
        · dsimp only
          rw [List.drop_set_of_lt (by omega)]
          exact hRd1
        · dsimp only
          rw [hkl]
          exact (by (repeat (first | exact trivial | refine ⟨⟨rfl, rfl⟩, ?_⟩ | refine ⟨⟨rfl, congrArg (SV.int .i64) ej⟩, ?_⟩ | refine ⟨⟨rfl, congrArg (SV.int .i64) ek⟩, ?_⟩)))
    · obtain rfl : j = n := by omega
      have hka : kp v L j = L.filter (numN v) := by rw [← hl]; exact kp_all
      (repeat ((first | refine n_must rfl ?_ | refine n_chk (drawF_ok (by decide +kernel)) ?_ | refine n_same rfl ?_ | ((first | refine n_must ?_ ?_ | refine n_brT ?_ ?_); (focus (first | (simp [hjn]; done) | (simp [hjn]; omega) | (simp only [hjn]; simp; done)))) | (refine n_brF ?_ ?_; (focus (first | (simp [hjn]; done) | (simp [hjn]; omega) | (simp only [hjn]; simp; done)))) | refine n_must (by (with_reducible refine and_shape ?_) <;> kernel_rfl) ?_); (refine gs ?_)))
      refine n_exit rfl ?_
      (refine gs ?_)
      refine gw ?_
      have hlo : ((kp v L j).length : Int) = (((kp v L j).length : Nat) : Int) := rfl
      refine n_sliceLo (a := ⟨g, 0, none⟩) (n := (kp v L j).length) rfl rfl elemTm sizeTm rfl rfl (by omega) ?_
      (refine gs ?_)
      refine gw ?_
      refine n_clearTail (k := (kp v L j).length) (size := 4) 0 rfl rfl elemTm hitt hpt.1 rfl (by omega) zeroTm_one hkj rfl rfl ?_
      (refine gs ?_)
      refine gw ?_
      refine n_sliceHi (n := (kp v L j).length) rfl rfl elemTm sizeTm rfl rfl (by omega) ?_
      (refine gs ?_)
      refine gw ?_
      refine n_ret0 rfl rfl fun ids' w' hp hI' => ⟨by rw [hka], ?_⟩
      have h := post_res (ρ := tRow (some ⟨g, 0, none⟩) j cap (tms L)) (ρ' := tRow (some ⟨g, 0, none⟩) (kp v L j).length cap ((tms R).take ((kp v L j).length * 4))) hI' rfl 0 rfl rfl rfl
      rw [tms_take, hRt, hka] at h
      exact h

/-! ### Cancel -/
theorem placeT_in {W : Wh} {N : Nat} (hW : W.ok N) {x q : Int} (h : mget W.m x = some q) : ∃ k : Nat, k < W.n ∧ q = (k : Int) ∧ ∃ t ∈ W.L k, t.num = x := by
  rw [hW.pl] at h
  unfold placeT at h
  obtain ⟨t, ht, e⟩ := Option.map_eq_some_iff.1 h
  have h1 := List.mem_of_find?_eq_some ht
  have h2 : t.num = x := by simpa using List.find?_some ht
  have hd := hW.s.due t h1
  obtain ⟨k, hk, ek⟩ := tmod_in (x := t.due) (n := W.n) (by have := hW.s.now.1; omega) (by have := hW.n; omega)
  refine ⟨k, hk, by rw [← e, ek], t, ?_, h2⟩
  show t ∈ slotL W.n W.s.A k
  unfold slotL
  rw [if_pos hk]
  exact List.mem_filter.2 ⟨h1, by simpa [slotB] using ek⟩
theorem has_iff {W : Wh} {N : Nat} (hW : W.ok N) (x : Int) : W.s.has x = (mget W.m x).isSome := by
  rw [hW.pl]
  unfold placeT Ws.has
  rw [Option.isSome_map, Bool.eq_iff_iff, List.any_eq_true, List.find?_isSome]
def Wh.cancel (W : Wh) (x : Int) : Wh := ⟨W.n, W.mb, mdel W.m x, W.S, W.s.cancel x⟩
theorem cancel_in {W : Wh} {x : Int} {k : Nat} : (W.cancel x).L k = (W.L k).filter (numN x) := slot_filter k
theorem cancel_out {W : Wh} {N : Nat} (hW : W.ok N) {x : Int} {k : Nat} (h : mget W.m x = some (k : Int)) {j : Nat} (hj : j ≠ k) : (W.cancel x).L j = W.L j := by
  rw [cancel_in]
  refine filter_idle fun t ht => ?_
  unfold numN
  rw [decide_eq_true_eq]
  intro e
  obtain ⟨h1, h2, _⟩ := mem_slot ht
  rw [hW.pl] at h
  unfold placeT at h
  rw [find_unique hW.s.up h1 e] at h
  simp only [Option.map_some, Option.some.injEq] at h
  rw [h2] at h
  omega
theorem cancel_ok {W : Wh} {N : Nat} (hW : W.ok N) (x : Int) : (W.cancel x).ok N := by
  refine ⟨hW.n, hW.s.cancel x, mdel_nodup hW.nd, fun y => ?_⟩
  show mget (mdel W.m x) y = placeT W.n (W.s.A.filter _) y
  rw [mget_del hW.nd, hW.pl]
  unfold placeT
  rw [find_filter_none hW.s.up]
  cases hf : W.s.A.find? fun a => decide (a.num = y) with
  | none => simp
  | some t =>
    have h2 : t.num = y := by simpa using List.find?_some hf
    by_cases e : x = y
    · simp [e, h2]
    · rw [if_neg e]
      have : ¬ t.num = x := fun h => e (by rw [← h, h2])
      simp [this]
theorem cancel_idle {W : Wh} {N : Nat} (hW : W.ok N) {x : Int} (h : mget W.m x = none) : W.s.cancel x = W.s := by
  have : W.s.A.filter (fun t => decide (t.num ≠ x)) = W.s.A := by
    refine filter_idle fun t ht => ?_
    rw [decide_eq_true_eq]
    intro e
    rw [hW.pl] at h
    unfold placeT at h
    rw [find_unique hW.s.up ht e] at h
    cases h
  unfold Ws.cancel
  rw [this]
theorem wCancel_ok {p : Nat} {W : Wh} {N : Nat} {x : Int} {w : World} (hW : W.ok N) (hN : N ≤ 1000000) (hx : i64 x) (hR : (whRes p W).R w) :
    Calls Try.prog 18 #[pV p, .int .i64 x] w fun e w' => ∃ W' : Wh, e = .returned (.bool (W.s.has x)) ∧ (W'.ok N ∧ W'.s = W.s.cancel x ∧ W'.n = W.n) ∧ Post (whRes p W) (whRes p W') w w' := by
  obtain ⟨hn1, hn2⟩ := hW.n
  rw [has_iff hW]
  have hI0 : Inv (cx 36 [(5, .of [(0, []), (1, []), (2, []), (3, []), (4, []), (5, []), (6, []), (7, []), (8, []), (10, []), (11, []), (9, []), (12, []), (13, [])])] (whRes p W).fp w) w [0, 0, 0] (whMem p W) := memRes_open hR fun x hx => hx
  cases hm : mget W.m x with
  | none =>
    have hI := hI0
    refine calls_sm (cx 36 [(5, .of [(0, []), (1, []), (2, []), (3, []), (4, []), (5, []), (6, []), (7, []), (8, []), (10, []), (11, []), (9, []), (12, []), (13, [])])] (whRes p W).fp w) (vals := [.raw (pV p), .int .i64 x]) mixed Try.func18 rfl rfl rfl hI rfl (st rfl ?_); conv => arg 3; whnf
    refine gw ?_
    (refine n_ldA (.raw (.map (some W.mb))) rfl (by first | exact trivial | rfl) rfl (fun _ w1 _ hI1 => load_cell aggMapI (wb_mb (hI1.res 0 rfl rfl) rfl)) ?_; (refine gs ?_))
    refine gw ?_
    refine n_lookup (E := intE) (ev' := intV) (b := W.mb) (kr := .int .i64 x) (zr := .int .i64 0) (z := .int .i64 0) W.m x (.tup [.int .i64 0, .lit false]) intK rfl rfl rfl rfl rfl rfl (wf_of_i64 hx) rfl rfl (by rw [hm]; rfl) (fun _ w1 _ hI1 => by exact (hI1.res 2 rfl rfl)) ?_
    (refine gs ?_)
    refine gw ?_
    refine n_ret0 rfl rfl fun ids' w' hp hI' => ⟨W, rfl, ⟨hW, (cancel_idle hW hm).symm, rfl⟩, ?_⟩
    exact post_shut (ids := [0, 0, 0]) (mem := whMem p W) (ρ := whRes p W) hI' rfl [0, 1, 2] (.res rfl (.res rfl (.res rfl .nil))) (by decide)
  | some q0 =>
    obtain ⟨q, hq, rfl, _⟩ := placeT_in hW hm
    have hAq : W.rows[q]? = some (W.row q) := by rw [List.getElem?_map, List.getElem?_range (by omega)]; rfl
    have hll := L_le hW q
    have hI := (hI0.lessR 1 rfl rfl rfl (fun h => all_out h hAq)).part2 1 rfl rfl 54
    refine calls_sm (cx 36 [(5, .of [(0, []), (1, []), (2, []), (3, []), (4, []), (5, []), (6, []), (7, []), (8, []), (10, []), (11, []), (9, []), (12, []), (13, [])])] (whRes p W).fp w) (vals := [.raw (pV p), .int .i64 x]) mixed Try.func18 rfl rfl rfl hI rfl (st rfl ?_); conv => arg 3; whnf
    refine gw ?_
    (refine n_ldA (.raw (.map (some W.mb))) rfl (by first | exact trivial | rfl) rfl (fun _ w1 _ hI1 => load_cell aggMapI (wb_mb (hI1.res 0 rfl rfl) rfl)) ?_; (refine gs ?_))
    refine gw ?_
    refine n_lookup (E := intE) (ev' := intV) (b := W.mb) (kr := .int .i64 x) (zr := .int .i64 0) (z := .int .i64 0) W.m x (.tup [.int .i64 (q : Int), .lit true]) intK rfl rfl rfl rfl rfl rfl (wf_of_i64 hx) rfl rfl (by rw [hm]; rfl) (fun _ w1 _ hI1 => by exact (hI1.res 2 rfl rfl)) ?_
    (refine gs ?_)
    refine gw ?_
    (refine n_ldA (.raw (.map (some W.mb))) rfl (by first | exact trivial | rfl) rfl (fun _ w1 _ hI1 => load_cell aggMapI (wb_mb (hI1.res 0 rfl rfl) rfl)) ?_; (refine gs ?_))
    refine gw ?_
    refine n_delete (E := intE) (ev' := intV) (i := 2) (b := W.mb) (kr := .int .i64 x) (ρ := plRes W.mb W.m) (plRes W.mb (mdel W.m x)) W.m x intK rfl rfl rfl rfl rfl rfl (wf_of_i64 hx) rfl rfl rfl (by simp [plRes]) (by simp [plRes]) (fun _ _ _ _ h => by exact h) (fun _ _ _ _ _ _ _ h => by exact h) ?_
    (refine gs ?_)
    refine gw ?_
    have ea : ((⟨p, 0, none⟩ : Addr).add 0).add ((q : Int).toNat * 1) = ⟨p, q, none⟩ := by rw [add_mk, add_mk]; simp
    (refine n_ldA (.raw (.slice (W.S q).1 (W.L q).length (W.S q).2)) rfl (by first | exact trivial | rfl) rfl (fun _ w1 _ hI1 => load_cell aggTms (wb_slot (hI1.res 0 rfl rfl) (by omega) ea)) ?_; (refine gs ?_))
    refine gw ?_
    refine n_call1 rfl fun b => ?_
    refine n_callR (Y := Unit) 3 (fun _ => tRow (W.S q).1 ((W.L q).filter (numN x)).length (W.S q).2 (tms ((W.L q).filter (numN x)))) (fun _ => .raw (.slice (W.S q).1 ((W.L q).filter (numN x)).length (W.S q).2)) (fun _ => .slice (W.S q).1 ((W.L q).filter (numN x)).length (W.S q).2) (fun _ => True) rfl rfl (fun _ => rfl) rfl rfl rfl (fun ids' w1 hp hI1 hR1 => ?_) ?_
    · obtain rfl := ext0 hp (by rw [hI1.len]; rfl)
      exact (wDel_ok (L := W.L q) rfl (by omega) hR1 (hI1.at0 4 rfl rfl rfl) (hI1.ne_res 4 3 (by decide) rfl rfl rfl rfl rfl)).mono fun e w' ⟨he, hf⟩ => ⟨(), he, trivial, hf⟩
    intro _ _
    (refine gs ?_)
    refine gw ?_
    refine n_storeA (n := p) (off := q) (k := 1) (ty := 58) (l := W.cells) (rv := .raw (.slice (W.S q).1 ((W.L q).filter (numN x)).length (W.S q).2)) (v := .slice (W.S q).1 ((W.L q).filter (numN x)).length (W.S q).2) 0 (wbRes p (wcl (fun j => if j = q then .slice (W.S q).1 ((W.L q).filter (numN x)).length (W.S q).2 else W.sl j) W.n W.mb W.s.now W.s.last)) _ rfl rfl rfl ea rfl rfl sizeTms rfl rfl rfl rfl rfl (by simp [cellsRes]) (fun w h => h) (by rw [wcl_len]; omega) (wcl_set_slot (by omega)) (fun w w' _ _ h => h) (by simp [cellsRes]) ?_
    (refine gs ?_)
    refine gw ?_
    refine n_ret0 rfl rfl fun ids' w' hp hI' => ⟨W.cancel x, rfl, ⟨cancel_ok hW x, rfl, rfl⟩, ?_⟩
    have hrl : (W.rows.set q Res.none)[q]? = some Res.none := by rw [List.getElem?_set_self (by simp; omega)]
    have hI2 := hI'.join 1 3 (by decide) rfl rfl rfl rfl rfl rfl (fun h => all_in h hrl)
    have h := post_shut (ids := [0, 0, 0]) (mem := whM p _ _ W.mb _) (ρ := whRes p W) hI2 rfl [0, 1, 2] (.res rfl (.res rfl (.res rfl .nil))) (by decide)
    have e1 : (W.cancel x).cells = wcl (fun j => if j = q then .slice (W.S q).1 ((W.L q).filter (numN x)).length (W.S q).2 else W.sl j) W.n W.mb W.s.now W.s.last := by
      refine wcl_congr fun j _ => ?_
      by_cases e : j = q
      · subst e
        simp only [Wh.sl, cancel_in, if_pos]
        rfl
      · simp only [Wh.sl, cancel_out hW hm e, if_neg e]
        rfl
    have e2 : (W.rows.set q Res.none).set q (tRow (W.S q).1 ((W.L q).filter (numN x)).length (W.S q).2 (tms ((W.L q).filter (numN x)))) = (W.cancel x).rows := by
      refine map_upd ?_ fun j _ e => ?_
      · simp only [Wh.row, cancel_in]
        rfl
      · simp only [Wh.row, cancel_out hW hm e]
        rfl
    rw [← e1, e2] at h
    exact h
end Go.Proofs.Ytjmaddmklogchaa
