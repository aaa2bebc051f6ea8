/- Chapter 17's law: copies with a mark, lists that are the same, verifies. Chapter 17's law: verifies. -/
import Derived.Test.YtfcbcgjgkleonaaBnR
import Derived.Test.YtfcbcgjgkleonaaBnZ
namespace Go.Proofs.Ytfcbcgjgkleonaa
section
set_option maxRecDepth 100000
set_option linter.unusedSimpArgs false
set_option linter.unusedVariables false
set_option maxHeartbeats 8000000
open Go.RowKit

theorem elemPast : sliceElem Try.prog 22 = some 55 := by kernel_rfl
theorem infoPast : (Try.prog.info? 55).map (fun i => (i.zero, i.size, i.bytes)) = some (some (.agg #[.int .i64 0, .int .i64 0, .int .i64 0, .string { data := #[] }, .int .i64 0, .int .i64 0, .int .i64 0, .int .i64 0, .int .i64 0, .int .i64 0]), 10, 88) := by kernel_rfl
theorem elemEff : sliceElem Try.prog 23 = some 52 := by kernel_rfl
theorem infoEff : (Try.prog.info? 52).map (fun i => (i.zero, i.size, i.bytes)) = some (some (.agg #[.int .i64 0, .int .i64 0, .int .i64 0, .int .i64 0, .string { data := #[] }, .int .i64 0, .int .i64 0, .int .i64 0, .int .i64 0]), 9, 80) := by kernel_rfl
abbrev paRow (y : Option Addr × Nat) (L : List Pa) : Res := rowRes 55 10 y.1 L.length y.2 (L.flatMap Pa.l)
abbrev efRow (y : Option Addr × Nat) (E : List Ef) : Res := rowRes 52 9 y.1 E.length y.2 (E.flatMap Ef.l)
abbrev paMark : Pa := ⟨0, 0, 0, { data := #[] }, 0, 0, -77, 0, 0, 0⟩
abbrev efMark : Ef := ⟨-77, 0, 0, 0, { data := #[] }, 0, 0, 0, 0⟩
theorem one_pa (L : List Pa) : ∀ u ∈ L.flatMap Pa.l, u.oneCell' = true := by
  intro u hu
  obtain ⟨p, _, hu⟩ := List.mem_flatMap.1 hu
  simp at hu
  rcases hu with rfl | rfl | rfl | rfl | rfl | rfl | rfl | rfl | rfl | rfl <;> rfl
theorem one_ef (E : List Ef) : ∀ u ∈ E.flatMap Ef.l, u.oneCell' = true := by
  intro u hu
  obtain ⟨p, _, hu⟩ := List.mem_flatMap.1 hu
  simp at hu
  rcases hu with rfl | rfl | rfl | rfl | rfl | rfl | rfl | rfl | rfl <;> rfl
theorem lent_ok {o : Option Addr} {L : List Pa} {w : World} (cap : Nat) (hR : (paRes o L).R w) (hlt : ∀ x ∈ (paRes o L).fp, x < w.heap.size) (hl : L.length ≤ 1599289640390) :
    Calls Try.prog 22 #[.slice o L.length cap] w fun e w' => ∃ y : Nat × Nat, e = .returned (.slice (some ⟨y.1, 0, none⟩) (L.length + 1) y.2) ∧ L.length + 1 ≤ y.2 ∧ FreshR w w' (paRow (some ⟨y.1, 0, none⟩, y.2) (L ++ [paMark])) := by
  obtain ⟨it, hit, hparts⟩ := Option.map_eq_some_iff.1 infoPast
  simp only [Prod.mk.injEq] at hparts
  have hI : Inv (cx 10 [] [] w) w [0] [⟨55, [.res (paRes o L)], false⟩] := (Inv.nil w).consR (by simp) hR hlt (by simp)
  refine calls_sm (cx 10 [] [] w) (vals := [.raw (.slice o L.length cap)]) mixed Try.func22 rfl rfl rfl hI rfl (st rfl ?_); conv => arg 3; whnf
  refine gg ?_
  refine n_appendN (nv := L.flatMap Pa.l) rfl rfl rfl elemPast hit hparts.1 hparts.2.1 hparts.2.2 rfl (by omega) rfl rfl (by rw [flat_len pa_len]) (fun _ w1 _ hI1 => hI1.res 0 rfl rfl) (one_pa L) (by omega) (by omega) ?_
  intro y hy
  (refine gs ?_)
  refine gw ?_
  refine n_build1 rfl rfl elemPast rfl rfl rfl rfl rfl rfl rfl rfl rfl ?_
  (refine gs ?_)
  refine gw ?_
  refine n_append (nv := paMark.l) 1 rfl rfl elemPast hit hparts.1 hparts.2.1 hparts.2.2 rfl (by omega) rfl rfl rfl rfl rfl rfl (by omega) (by simp [Value.oneCell']) (by omega) (by omega) (show L.flatMap Pa.l ++ paMark.l = (L ++ [paMark]).flatMap Pa.l by simp) fun g' ca' => ?_
  (refine gs ?_)
  refine gw ?_
  refine n_ret0 rfl rfl fun ids' w' hp hI' => ⟨(g', ca'), rfl, ?_, ?_⟩
  · have h := hI'.res 1 rfl rfl
    rcases h.2 with ⟨_, h0⟩ | ⟨_, _, _, e1, _, _, h2, _⟩
    · omega
    · simp only [Value.slice.injEq] at e1
      obtain ⟨_, _, rfl⟩ := e1
      exact h2
  · have hlen : (L ++ [paMark]).length = L.length + 1 := by simp
    unfold paRow FreshR
    rw [hlen]
    exact ⟨hI'.frm, hI'.res 1 rfl rfl, hI'.res_new 1 rfl rfl rfl (by simp), hI'.resLt 1 rfl rfl⟩

/-! ### Lists that are the same -/
theorem samePast_ok {o o2 : Option Addr} {L : List Pa} {w : World} (cap cap2 : Nat) (hR : (paRes o L).R w) (hlt : ∀ x ∈ (paRes o L).fp, x < w.heap.size) (hR2 : (paRes o2 L).R w) (hlt2 : ∀ x ∈ (paRes o2 L).fp, x < w.heap.size) (hap : ∀ x ∈ (paRes o L).fp, x ∉ (paRes o2 L).fp) (hl : L.length ≤ 9223372036854775806) :
    Calls Try.prog 24 #[.slice o L.length cap, .slice o2 L.length cap2] w fun e w' => e = .returned (.bool true) ∧ Frm [] w w' := by
  have hI0 : Inv (cx 26 [] [] w) w [0] [⟨55, [.res (paRes o L)], false⟩] := (Inv.nil w).consR (by simp) hR hlt (by simp)
  have hI := hI0.consR (t := 55) (rw_ := false) (r := paRes o2 L) (fun x hx hm => hap x (by simpa [fpsOf, fpOf, resOf] using hm) hx) hR2 hlt2 (by simp)
  refine calls_sm (cx 26 [] [] w) (vals := [.raw (.slice o L.length cap), .raw (.slice o2 L.length cap2)]) mixed Try.func24 rfl rfl rfl hI rfl (st rfl ?_); conv => arg 3; whnf
  refine gw ?_
  refine n_loop (σ := Nat) (fun i => [(0, .raw (.slice o L.length cap)), (1, .raw (.slice o2 L.length cap2)), (5, .int .i64 (i : Nat))]) (fun _ => [⟨55, [.res (paRes o L)], false⟩, ⟨55, [.res (paRes o2 L)], false⟩]) (fun i => i ≤ L.length) (fun i => L.length - i) 0 mixed (by omega) (fun _ _ => rfl) rfl (by (repeat (first | exact trivial | refine ⟨⟨rfl, rfl⟩, ?_⟩))) (fun s _ => ⟨by (repeat (first | exact trivial | refine ⟨⟨_, rfl⟩, ?_⟩)), by (repeat (first | exact trivial | refine ⟨⟨_, rfl⟩, ?_⟩))⟩) fun i hi => ?_
  (refine gs ?_)
  by_cases hlt3 : i < L.length
  · have ei : IntKind.i64.wrap ((i : Int) + 1) = ((i + 1 : Nat) : Int) := by rw [w64 (by omega) (by omega)]; simp
    obtain ⟨ad, rfl⟩ := rd_some pa_len (by omega) hR (by omega)
    obtain ⟨ad2, rfl⟩ := rd_some pa_len (by omega) hR2 (by omega)
    have hx : L[i]? = some L[i] := List.getElem?_eq_getElem _
    generalize L[i] = p at hx
    refine gw ?_
    refine n_ldDI (.agg p.sv) rfl rfl (fun _ w1 _ hI1 => pa_row (hI1.res 0 rfl rfl) hx rfl) ?_
    (refine gs ?_)
    refine gw ?_
    refine n_ldDI (.agg p.sv) rfl rfl (fun _ w1 _ hI1 => pa_row (hI1.res 1 rfl rfl) hx rfl) ?_
    (refine gs ?_)
    refine gw ?_
    exact n_again ⟨i + 1, by omega, by omega, (by (repeat (first | exact trivial | refine ⟨⟨rfl, rfl⟩, ?_⟩ | refine ⟨⟨rfl, congrArg (SV.int .i64) ei⟩, ?_⟩))), ⟨_, rfl⟩⟩
  · obtain rfl : i = L.length := by omega
    refine gw ?_
    refine n_exit rfl ?_
    (refine gs ?_)
    refine gw ?_
    exact n_ret0 rfl rfl fun ids' w' hp hI' => ⟨rfl, hI'.frm⟩
theorem sameEffects_ok {o o2 : Option Addr} {L : List Ef} {w : World} (cap cap2 : Nat) (hR : (efRes o L).R w) (hlt : ∀ x ∈ (efRes o L).fp, x < w.heap.size) (hR2 : (efRes o2 L).R w) (hlt2 : ∀ x ∈ (efRes o2 L).fp, x < w.heap.size) (hap : ∀ x ∈ (efRes o L).fp, x ∉ (efRes o2 L).fp) (hl : L.length ≤ 9223372036854775806) :
    Calls Try.prog 25 #[.slice o L.length cap, .slice o2 L.length cap2] w fun e w' => e = .returned (.bool true) ∧ Frm [] w w' := by
  have hI0 : Inv (cx 26 [] [] w) w [0] [⟨52, [.res (efRes o L)], false⟩] := (Inv.nil w).consR (by simp) hR hlt (by simp)
  have hI := hI0.consR (t := 52) (rw_ := false) (r := efRes o2 L) (fun x hx hm => hap x (by simpa [fpsOf, fpOf, resOf] using hm) hx) hR2 hlt2 (by simp)
  refine calls_sm (cx 26 [] [] w) (vals := [.raw (.slice o L.length cap), .raw (.slice o2 L.length cap2)]) mixed Try.func25 rfl rfl rfl hI rfl (st rfl ?_); conv => arg 3; whnf
  refine gw ?_
  refine n_loop (σ := Nat) (fun i => [(0, .raw (.slice o L.length cap)), (1, .raw (.slice o2 L.length cap2)), (5, .int .i64 (i : Nat))]) (fun _ => [⟨52, [.res (efRes o L)], false⟩, ⟨52, [.res (efRes o2 L)], false⟩]) (fun i => i ≤ L.length) (fun i => L.length - i) 0 mixed (by omega) (fun _ _ => rfl) rfl (by (repeat (first | exact trivial | refine ⟨⟨rfl, rfl⟩, ?_⟩))) (fun s _ => ⟨by (repeat (first | exact trivial | refine ⟨⟨_, rfl⟩, ?_⟩)), by (repeat (first | exact trivial | refine ⟨⟨_, rfl⟩, ?_⟩))⟩) fun i hi => ?_
  (refine gs ?_)
  by_cases hlt3 : i < L.length
  · have ei : IntKind.i64.wrap ((i : Int) + 1) = ((i + 1 : Nat) : Int) := by rw [w64 (by omega) (by omega)]; simp
    obtain ⟨ad, rfl⟩ := rd_some ef_len (by omega) hR (by omega)
    obtain ⟨ad2, rfl⟩ := rd_some ef_len (by omega) hR2 (by omega)
    have hx : L[i]? = some L[i] := List.getElem?_eq_getElem _
    generalize L[i] = p at hx
    refine gw ?_
    refine n_ldDI (.agg p.sv) rfl rfl (fun _ w1 _ hI1 => ef_row (hI1.res 0 rfl rfl) hx rfl) ?_
    (refine gs ?_)
    refine gw ?_
    refine n_ldDI (.agg p.sv) rfl rfl (fun _ w1 _ hI1 => ef_row (hI1.res 1 rfl rfl) hx rfl) ?_
    (refine gs ?_)
    refine gw ?_
    exact n_again ⟨i + 1, by omega, by omega, (by (repeat (first | exact trivial | refine ⟨⟨rfl, rfl⟩, ?_⟩ | refine ⟨⟨rfl, congrArg (SV.int .i64) ei⟩, ?_⟩))), ⟨_, rfl⟩⟩
  · obtain rfl : i = L.length := by omega
    refine gw ?_
    refine n_exit rfl ?_
    (refine gs ?_)
    refine gw ?_
    exact n_ret0 rfl rfl fun ids' w' hp hI' => ⟨rfl, hI'.frm⟩
end
section
set_option maxRecDepth 100000
set_option linter.unusedSimpArgs false
set_option linter.unusedVariables false
set_option maxHeartbeats 8000000
open Go.RowKit

theorem verifies_ok {o : Option Addr} {L : List Pa} {oe : Option Addr} {E : List Ef} {w : World} (cap cape : Nat) (hR : (paRes o L).R w) (hlt : ∀ x ∈ (paRes o L).fp, x < w.heap.size) (hE : (efRes oe E).R w) (hElt : ∀ x ∈ (efRes oe E).fp, x < w.heap.size)
    (hl : L.length ≤ 1599289640390) (hle : E.length ≤ 1759218604390) (hL64 : ∀ p ∈ L, i64 p.se ∧ i64 p.id) (hEg : ∀ e ∈ E, e.good) :
    Calls Try.prog 9 #[.slice o L.length cap, .slice oe E.length cape] w fun x w' => x = .returned (.bool true) ∧ Frm [] w w' := by
  obtain ⟨it, hit, hparts⟩ := Option.map_eq_some_iff.1 infoEff
  simp only [Prod.mk.injEq] at hparts
  have hI := Inv.nil (P := Try.prog) (N := 78) (S := []) (os := [(3, .then [(0, []), (1, []), (2, []), (4, []), (5, []), (6, [])] (.fork 3 [] (.of [(7, []), (8, []), (9, []), (10, []), (11, []), (12, []), (13, [])]) (.cons 7 [] (.of [(3, []), (8, []), (9, []), (10, []), (11, []), (12, []), (13, [])]))))]) w
  have hE1 : ∀ w1, Frm [] w w1 → (efRes oe E).R w1 := fun w1 hf => (efRes oe E).stable _ _ (fun k hk => hf.block k (hElt k hk) (by simp)) hE
  have hElt1 : ∀ w1, Frm [] w w1 → ∀ x ∈ (efRes oe E).fp, x < w1.heap.size := fun w1 hf x hx => Nat.lt_of_lt_of_le (hElt x hx) hf.size
  have hL1 : ∀ w1, Frm [] w w1 → (paRes o L).R w1 := fun w1 hf => (paRes o L).stable _ _ (fun k hk => hf.block k (hlt k hk) (by simp)) hR
  have hLlt1 : ∀ w1, Frm [] w w1 → ∀ x ∈ (paRes o L).fp, x < w1.heap.size := fun w1 hf x hx => Nat.lt_of_lt_of_le (hlt x hx) hf.size
  refine calls_sm (cx 78 [(3, .then [(0, []), (1, []), (2, []), (4, []), (5, []), (6, [])] (.fork 3 [] (.of [(7, []), (8, []), (9, []), (10, []), (11, []), (12, []), (13, [])]) (.cons 7 [] (.of [(3, []), (8, []), (9, []), (10, []), (11, []), (12, []), (13, [])]))))] [] w) (vals := [.raw (.slice o L.length cap), .raw (.slice oe E.length cape)]) mixed Try.func9 rfl rfl rfl hI rfl (st rfl ?_); conv => arg 3; whnf
  refine gg ?_
  refine n_callN (fun y : Nat × Nat => paRow (some ⟨y.1, 0, none⟩, y.2) (L ++ [paMark])) 55 (fun y => .raw (.slice (some ⟨y.1, 0, none⟩) (L.length + 1) y.2)) (fun y => .slice (some ⟨y.1, 0, none⟩) (L.length + 1) y.2) (fun y => L.length + 1 ≤ y.2) rfl rfl rfl (fun _ => rfl) (fun w1 hI1 => lent_ok cap (hL1 _ hI1.frm) (hLlt1 _ hI1.frm) hl) ?_
  rintro ⟨gx, cx'⟩ hcx hnx
  dsimp only at hcx
  (refine gs ?_)
  refine gw ?_
  refine n_appendN (nv := E.flatMap Ef.l) rfl rfl rfl elemEff hit hparts.1 hparts.2.1 hparts.2.2 rfl (by omega) rfl rfl (by rw [flat_len ef_len]) (fun _ w1 _ hI1 => hE1 _ hI1.frm) (one_ef E) (by omega) (by omega) ?_
  intro ye hye
  (refine gs ?_)
  refine gw ?_
  refine n_build1 rfl rfl elemEff rfl rfl rfl rfl rfl rfl rfl rfl rfl ?_
  (refine gs ?_)
  refine gw ?_
  refine n_append (nv := efMark.l) 1 rfl rfl elemEff hit hparts.1 hparts.2.1 hparts.2.2 rfl (by omega) rfl rfl rfl rfl rfl rfl (by omega) (by simp [Value.oneCell']) (by omega) (by omega) (show E.flatMap Ef.l ++ efMark.l = (E ++ [efMark]).flatMap Ef.l by simp) fun ge ce => ?_
  (refine gs ?_)
  have hxP : ∀ {w1}, (paRow (some ⟨gx, 0, none⟩, cx') (L ++ [paMark])).R w1 → (paRes (some ⟨gx, 0, none⟩) L).R w1 := fun h => rd_pre (ys := paMark.l) (by have := rd_of_row h; simpa using this)
  have hyP : ∀ {w1}, (rowRes 52 9 (some ⟨ge, 0, none⟩) (E.length + 1) ce ((E ++ [efMark]).flatMap Ef.l)).R w1 → (efRes (some ⟨ge, 0, none⟩) E).R w1 := fun h => rd_pre (ys := efMark.l) (by have := rd_of_row h; simpa using this)
  refine gw ?_
  refine n_both ?_ ?_
  · (refine gs ?_)
    refine gw ?_
    refine n_sliceHi (n := L.length) rfl rfl elemPast sizePast rfl rfl (by omega) ?_
    (refine gs ?_)
    refine gw ?_
    refine n_opF (P := E.length + 1 ≤ ce) (fun _ w1 _ hI1 => row_cap (hI1.res 1 rfl rfl) (by omega)) fun hce => ?_
    refine n_sliceHi (n := E.length) rfl rfl elemEff sizeEff rfl rfl (by omega) ?_
    (refine gs ?_)
    refine gw ?_
    refine n_sameP (ansS (verF L E (alR E)).1 (verF L E (alR E)).2) rfl rfl rfl (fun _ w1 hp1 hI1 => (by have h := cVerify_ok (o := some ⟨gx, 0, none⟩) (L := L) (oe := some ⟨ge, 0, none⟩) (E := E) (w := w1) cx' ce (hxP (hI1.res 0 rfl rfl)) (fun x hx => hI1.resLt 0 rfl rfl x (by first | exact hx | exact rd_inR hx | exact rd_inC hx)) (hyP (hI1.res 1 rfl rfl)) (fun x hx => hI1.resLt 1 rfl rfl x (by first | exact hx | exact rd_inR hx | exact rd_inC hx)) (fun x hx hm => hI1.res_res 0 1 (by decide) rfl rfl rfl rfl x (by first | exact hx | exact rd_inR hx | exact rd_inC hx) (by first | exact hm | exact rd_inR hm | exact rd_inC hm)) (by omega) hle hL64 hEg; rw [verF_eq] at h; exact h)) ?_; (refine gs ?_)
    refine gw ?_
    refine n_sameP (ansS (verF L E (alR E)).1 (verF L E (alR E)).2) rfl rfl rfl (fun _ w1 hp1 hI1 => rVerify_ok cap cape (hL1 _ hI1.frm) (hLlt1 _ hI1.frm) (hE1 _ hI1.frm) (hElt1 _ hI1.frm) (by omega) hle) ?_; (refine gs ?_)
    generalize verF L E (alR E) = VR
    refine gw ?_
    refine n_sliceHi (n := L.length) rfl rfl elemPast sizePast rfl rfl (by omega) ?_
    (refine gs ?_)
    refine gw ?_
    refine n_sameP (.bool true) rfl rfl rfl (fun _ w1 hp1 hI1 => samePast_ok cx' cap (hxP (hI1.res 0 rfl rfl)) (fun x hx => hI1.resLt 0 rfl rfl x (by first | exact hx | exact rd_inR hx | exact rd_inC hx)) (hL1 _ hI1.frm) (hLlt1 _ hI1.frm) (fun x hx hm => by have h1 := hI1.res_new 0 rfl rfl rfl (by simp) x (by first | exact hx | exact rd_inR hx | exact rd_inC hx); have h2 := hlt x hm; exact absurd h2 (Nat.not_lt.2 h1)) (by omega)) ?_; (refine gs ?_)
    refine gw ?_
    refine n_ldI (.int .i64 (-77)) rfl rfl (fun _ w1 _ hI1 => load_cell aggInt (row_at pa_len (hI1.res 0 rfl rfl) (i := L.length) (x := paMark) (by simp) (j := 6) (by omega) rfl (addT ⟨gx, 0, none⟩ L.length 10 6))) ?_
    (refine gs ?_)
    refine gw ?_
    refine n_opF (P := E.length + 1 ≤ ce) (fun _ w1 _ hI1 => row_cap (hI1.res 1 rfl rfl) (by omega)) fun hce => ?_
    refine n_sliceHi (n := E.length) rfl rfl elemEff sizeEff rfl rfl (by omega) ?_
    (refine gs ?_)
    refine gw ?_
    refine n_sameP (.bool true) rfl rfl rfl (fun _ w1 hp1 hI1 => sameEffects_ok ce cape (hyP (hI1.res 1 rfl rfl)) (fun x hx => hI1.resLt 1 rfl rfl x (by first | exact hx | exact rd_inR hx | exact rd_inC hx)) (hE1 _ hI1.frm) (hElt1 _ hI1.frm) (fun x hx hm => by have h1 := hI1.res_new 1 rfl rfl rfl (by simp) x (by first | exact hx | exact rd_inR hx | exact rd_inC hx); have h2 := hElt x hm; exact absurd h2 (Nat.not_lt.2 h1)) (by omega)) ?_; (refine gs ?_)
    refine gw ?_
    refine n_ldI (.int .i64 (-77)) rfl rfl (fun _ w1 _ hI1 => load_cell aggInt (row_at ef_len (hI1.res 1 rfl rfl) (i := E.length) (x := efMark) (by simp) (j := 0) (by omega) rfl (addT ⟨ge, 0, none⟩ E.length 9 0))) ?_
    (refine gs ?_)
    refine gw ?_
    exact n_ret0 rfl rfl fun ids' w' hp hI' => ⟨rfl, hI'.frm⟩
  · (refine gs ?_)
    refine gw ?_
    refine n_opF (P := E.length + 1 ≤ ce) (fun _ w1 _ hI1 => row_cap (hI1.res 1 rfl rfl) (by omega)) fun hce => ?_
    refine n_sliceHi (n := E.length) rfl rfl elemEff sizeEff rfl rfl (by omega) ?_
    (refine gs ?_)
    refine gw ?_
    refine n_sliceHi (n := L.length) rfl rfl elemPast sizePast rfl rfl (by omega) ?_
    (refine gs ?_)
    refine gw ?_
    refine n_sameP (ansS (verF L E (alR E)).1 (verF L E (alR E)).2) rfl rfl rfl (fun _ w1 hp1 hI1 => (by have h := cVerify_ok (o := some ⟨gx, 0, none⟩) (L := L) (oe := some ⟨ge, 0, none⟩) (E := E) (w := w1) cx' ce (hxP (hI1.res 0 rfl rfl)) (fun x hx => hI1.resLt 0 rfl rfl x (by first | exact hx | exact rd_inR hx | exact rd_inC hx)) (hyP (hI1.res 1 rfl rfl)) (fun x hx => hI1.resLt 1 rfl rfl x (by first | exact hx | exact rd_inR hx | exact rd_inC hx)) (fun x hx hm => hI1.res_res 0 1 (by decide) rfl rfl rfl rfl x (by first | exact hx | exact rd_inR hx | exact rd_inC hx) (by first | exact hm | exact rd_inR hm | exact rd_inC hm)) (by omega) hle hL64 hEg; rw [verF_eq] at h; exact h)) ?_; (refine gs ?_)
    refine gw ?_
    refine n_sameP (ansS (verF L E (alR E)).1 (verF L E (alR E)).2) rfl rfl rfl (fun _ w1 hp1 hI1 => rVerify_ok cap cape (hL1 _ hI1.frm) (hLlt1 _ hI1.frm) (hE1 _ hI1.frm) (hElt1 _ hI1.frm) (by omega) hle) ?_; (refine gs ?_)
    generalize verF L E (alR E) = VR
    refine gw ?_
    refine n_sliceHi (n := L.length) rfl rfl elemPast sizePast rfl rfl (by omega) ?_
    (refine gs ?_)
    refine gw ?_
    refine n_sameP (.bool true) rfl rfl rfl (fun _ w1 hp1 hI1 => samePast_ok cx' cap (hxP (hI1.res 0 rfl rfl)) (fun x hx => hI1.resLt 0 rfl rfl x (by first | exact hx | exact rd_inR hx | exact rd_inC hx)) (hL1 _ hI1.frm) (hLlt1 _ hI1.frm) (fun x hx hm => by have h1 := hI1.res_new 0 rfl rfl rfl (by simp) x (by first | exact hx | exact rd_inR hx | exact rd_inC hx); have h2 := hlt x hm; exact absurd h2 (Nat.not_lt.2 h1)) (by omega)) ?_; (refine gs ?_)
    refine gw ?_
    refine n_ldI (.int .i64 (-77)) rfl rfl (fun _ w1 _ hI1 => load_cell aggInt (row_at pa_len (hI1.res 0 rfl rfl) (i := L.length) (x := paMark) (by simp) (j := 6) (by omega) rfl (addT ⟨gx, 0, none⟩ L.length 10 6))) ?_
    (refine gs ?_)
    refine gw ?_
    refine n_opF (P := E.length + 1 ≤ ce) (fun _ w1 _ hI1 => row_cap (hI1.res 1 rfl rfl) (by omega)) fun hce => ?_
    refine n_sliceHi (n := E.length) rfl rfl elemEff sizeEff rfl rfl (by omega) ?_
    (refine gs ?_)
    refine gw ?_
    refine n_sameP (.bool true) rfl rfl rfl (fun _ w1 hp1 hI1 => sameEffects_ok ce cape (hyP (hI1.res 1 rfl rfl)) (fun x hx => hI1.resLt 1 rfl rfl x (by first | exact hx | exact rd_inR hx | exact rd_inC hx)) (hE1 _ hI1.frm) (hElt1 _ hI1.frm) (fun x hx hm => by have h1 := hI1.res_new 1 rfl rfl rfl (by simp) x (by first | exact hx | exact rd_inR hx | exact rd_inC hx); have h2 := hElt x hm; exact absurd h2 (Nat.not_lt.2 h1)) (by omega)) ?_; (refine gs ?_)
    refine gw ?_
    refine n_ldI (.int .i64 (-77)) rfl rfl (fun _ w1 _ hI1 => load_cell aggInt (row_at ef_len (hI1.res 1 rfl rfl) (i := E.length) (x := efMark) (by simp) (j := 0) (by omega) rfl (addT ⟨ge, 0, none⟩ E.length 9 0))) ?_
    (refine gs ?_)
    refine gw ?_
    exact n_ret0 rfl rfl fun ids' w' hp hI' => ⟨rfl, hI'.frm⟩
end
end Go.Proofs.Ytfcbcgjgkleonaa
