/- Chapter 17's law: first, same, able. -/
import Derived.Test.YtfcbcgjgkleonaaCkV
import Derived.Test.YtfcbcgjgkleonaaBnO
set_option maxRecDepth 100000
set_option linter.unusedSimpArgs false
set_option linter.unusedVariables false
set_option maxHeartbeats 8000000
namespace Go.Proofs.Ytfcbcgjgkleonaa
open Go.RowKit

theorem rd_of_blk {w : World} {b : Nat} {l : List Value} {t : TypeId} (h : Blk w b l.toArray t) : (readRes (some ⟨b, 0, none⟩) l).R w := fun j u hu => ⟨_, rfl, blk_at h hu rfl⟩
abbrev kS : ByteArray := { data := #[107] }
abbrev firstL : List Pa := [⟨0, 1, 1, kS, 10, 4, 0, 3, 0, 0⟩, ⟨1, 1, 7, kS, 0, 0, 2, 5, 0, 4⟩]
abbrev efA : Ef := ⟨1, 0, 1, 1, kS, 10, 4, 0, 0⟩
abbrev efB : Ef := ⟨4, 1, 1, 7, kS, 0, 0, 0, 4⟩
theorem first_ok (w : World) : Calls Try.prog 20 #[] w fun e w' => ∃ y : Nat, e = .returned (.slice (some ⟨y, 0, none⟩) 2 2) ∧ True ∧ FreshR w w' (cellsRes y (firstL.flatMap Pa.l) 55) := by
  have hI := Inv.nil (P := Try.prog) (N := 8) (S := []) (os := []) w
  refine calls_sm (cx 8 [] [] w) (vals := []) mixed Try.func20 rfl rfl rfl hI rfl (st rfl ?_); conv => arg 3; whnf
  refine gw ?_
  refine n_buildN rfl rfl elemPast rfl rfl rfl rfl rfl rfl rfl rfl ?_
  (refine gs ?_)
  refine gw ?_
  refine n_ret rfl fun ids' w' hp hI' => ?_
  obtain ⟨b, rfl⟩ := ext1 hp (by rw [hI'.len]; rfl)
  have hB := hI'.at0 0 rfl rfl rfl
  exact ⟨_, rfl, b, rfl, trivial, hI'.frm, hB, by simp [cellsRes]; exact hI'.new_at 0 rfl rfl rfl rfl (by simp), by simp [cellsRes]; exact hB.lt⟩
theorem same_ok {o o2 : Option Addr} {l : List Int} {w : World} (cap cap2 : Nat) (hR : (readRes o (ints l)).R w) (hlt : ∀ x ∈ (readRes o (ints l)).fp, x < w.heap.size) (hR2 : (readRes o2 (ints l)).R w) (hlt2 : ∀ x ∈ (readRes o2 (ints l)).fp, x < w.heap.size) (hl : l.length ≤ 9223372036854775806) :
    Calls Try.prog 21 #[.slice o l.length cap, .slice o2 l.length cap2] w fun e w' => e = .returned (.bool true) ∧ Frm [] w w' := by
  have hI := Inv.nil (P := Try.prog) (N := 26) (S := []) (os := []) w
  have h1 : ∀ w1, Frm [] w w1 → (readRes o (ints l)).R w1 := fun w1 hf => (readRes o (ints l)).stable _ _ (fun k hk => hf.block k (hlt k hk) (by simp)) hR
  have h2 : ∀ w1, Frm [] w w1 → (readRes o2 (ints l)).R w1 := fun w1 hf => (readRes o2 (ints l)).stable _ _ (fun k hk => hf.block k (hlt2 k hk) (by simp)) hR2
  have hcell : ∀ {o : Option Addr} {a : Addr} {w1 : World} {i : Nat} {x : Int} {ad : Addr}, (readRes (some a) (ints l)).R w1 → l[i]? = some x → ad = a.add (i * 1) → w1.cell? ad = some (.int .i64 x) := fun h hx ha => by
    rename_i a w1 i x ad
    obtain ⟨a', e, hc⟩ := h i (.int .i64 x) (by simp [hx])
    simp at e; subst e
    rw [ha, Nat.mul_one]; exact hc
  refine calls_sm (cx 26 [] [] w) (vals := [.raw (.slice o l.length cap), .raw (.slice o2 l.length cap2)]) mixed Try.func21 rfl rfl rfl hI rfl (st rfl ?_); conv => arg 3; whnf
  refine gw ?_
  refine n_loop (σ := Nat) (fun i => [(0, .raw (.slice o l.length cap)), (1, .raw (.slice o2 l.length cap2)), (5, .int .i64 (i : Nat))]) (fun _ => []) (fun i => i ≤ l.length) (fun i => l.length - i) 0 mixed (by omega) (fun _ _ => rfl) rfl (by (repeat (first | exact trivial | refine ⟨⟨rfl, rfl⟩, ?_⟩))) (fun s _ => ⟨by (repeat (first | exact trivial | refine ⟨⟨_, rfl⟩, ?_⟩)), by (repeat (first | exact trivial | refine ⟨⟨_, rfl⟩, ?_⟩))⟩) fun i hi => ?_
  (refine gs ?_)
  by_cases hlt3 : i < l.length
  · have ei : IntKind.i64.wrap ((i : Int) + 1) = ((i + 1 : Nat) : Int) := by rw [w64 (by omega) (by omega)]; simp
    have hx : l[i]? = some l[i] := List.getElem?_eq_getElem _
    obtain ⟨ad, rfl⟩ : ∃ a, o = some a := by obtain ⟨a, ha, _⟩ := hR i _ (by rw [List.getElem?_map, hx]; rfl); exact ⟨a, ha⟩
    obtain ⟨ad2, rfl⟩ : ∃ a, o2 = some a := by obtain ⟨a, ha, _⟩ := hR2 i _ (by rw [List.getElem?_map, hx]; rfl); exact ⟨a, ha⟩
    generalize l[i] = p at hx
    refine gw ?_
    refine n_ldDI (.int .i64 p) rfl rfl (fun _ w1 _ hI1 => load_cell aggInt (hcell (o := none) (h1 _ hI1.frm) hx rfl)) ?_
    (refine gs ?_)
    refine gw ?_
    refine n_ldDI (.int .i64 p) rfl rfl (fun _ w1 _ hI1 => load_cell aggInt (hcell (o := none) (h2 _ hI1.frm) hx rfl)) ?_
    (refine gs ?_)
    refine gw ?_
    exact n_again ⟨i + 1, by omega, by omega, (by (repeat (first | exact trivial | refine ⟨⟨rfl, rfl⟩, ?_⟩ | refine ⟨⟨rfl, congrArg (SV.int .i64) ei⟩, ?_⟩))), ⟨_, rfl⟩⟩
  · obtain rfl : i = l.length := by omega
    refine gw ?_
    refine n_exit rfl ?_
    (refine gs ?_)
    refine gw ?_
    exact n_ret0 rfl rfl fun ids' w' hp hI' => ⟨rfl, hI'.frm⟩
theorem efA_good : efA.good := ⟨⟨by decide, by decide⟩, ⟨by decide, by decide⟩, by decide, ⟨by decide, by decide⟩, ⟨by decide, by decide⟩⟩
theorem efB_good : efB.good := ⟨⟨by decide, by decide⟩, ⟨by decide, by decide⟩, by decide, ⟨by decide, by decide⟩, ⟨by decide, by decide⟩⟩
theorem first_good : ∀ p ∈ firstL, p.good := by
  intro p hp
  simp only [List.mem_cons, List.not_mem_nil, or_false] at hp
  rcases hp with rfl | rfl
  · exact ⟨⟨by decide, by decide⟩, ⟨by decide, by decide⟩, by decide, ⟨by decide, by decide⟩, ⟨by decide, by decide⟩⟩
  · exact ⟨⟨by decide, by decide⟩, ⟨by decide, by decide⟩, by decide, ⟨by decide, by decide⟩, ⟨by decide, by decide⟩⟩
theorem ef_ab : ∀ e ∈ [efA, efB], e.good := by
  intro e he
  simp only [List.mem_cons, List.not_mem_nil, or_false] at he
  rcases he with rfl | rfl
  · exact efA_good
  · exact efB_good
theorem ef_ba : ∀ e ∈ [efB, efA], e.good := by
  intro e he
  simp only [List.mem_cons, List.not_mem_nil, or_false] at he
  rcases he with rfl | rfl
  · exact efB_good
  · exact efA_good
theorem ver_ab : verF firstL [efA, efB] (alA [efA, efB]) = (0, 0) := by kernel_rfl
theorem ver_ba : verF firstL [efB, efA] (alA [efB, efA]) = (0, 170) := by kernel_rfl
theorem sea_ab : searchF firstL = ([0, 1], 0) := by kernel_rfl
theorem able_ok (w : World) : Calls Try.prog 8 #[] w fun e w' => e = .returned (.bool true) ∧ Frm [] w w' := by
  have hI := Inv.nil (P := Try.prog) (N := 73) (S := []) (os := [(2, .of [(0, []), (1, []), (2, []), (3, []), (4, []), (5, []), (6, []), (7, []), (8, []), (9, [7, 3]), (10, [])]), (3, .of [(0, []), (1, []), (2, []), (3, []), (4, []), (5, []), (6, []), (7, []), (8, []), (9, [7, 3]), (10, [])])]) w
  have hf64 : ∀ p ∈ firstL, i64 p.se ∧ i64 p.id := fun p hp => ⟨(first_good p hp).se, (first_good p hp).id⟩
  refine calls_sm (cx 73 [(2, .of [(0, []), (1, []), (2, []), (3, []), (4, []), (5, []), (6, []), (7, []), (8, []), (9, [7, 3]), (10, [])]), (3, .of [(0, []), (1, []), (2, []), (3, []), (4, []), (5, []), (6, []), (7, []), (8, []), (9, [7, 3]), (10, [])])] [] w) (vals := []) mixed Try.func8 rfl rfl rfl hI rfl (st rfl ?_); conv => arg 3; whnf
  refine gg ?_
  refine n_callN (fun b : Nat => cellsRes b (firstL.flatMap Pa.l) 55) 55 (fun b => .raw (.slice (some ⟨b, 0, none⟩) 2 2)) (fun b => .slice (some ⟨b, 0, none⟩) 2 2) (fun _ => True) rfl rfl rfl (fun _ => rfl) (fun w1 hI1 => first_ok w1) ?_
  intro hb _ hnew
  have hP : ∀ {w1}, (cellsRes hb (firstL.flatMap Pa.l) 55).R w1 → (paRes (some ⟨hb, 0, none⟩) firstL).R w1 := fun h => rd_of_blk h
  (refine gs ?_)
  refine gw ?_
  refine n_ldDI (.agg [.int .i64 0, .int .i64 1]) rfl rfl (fun _ w1 _ hI1 => pa_call (hP (hI1.res 0 rfl rfl)) (i := 0) (p := (⟨0, 1, 1, kS, 10, 4, 0, 3, 0, 0⟩ : Pa)) rfl (addT ⟨hb, 0, none⟩ 0 10 0)) ?_
  (refine gs ?_)
  refine gw ?_
  refine n_ldDI (.agg (opS ((⟨0, 1, 1, kS, 10, 4, 0, 3, 0, 0⟩ : Pa)).k ((⟨0, 1, 1, kS, 10, 4, 0, 3, 0, 0⟩ : Pa)).nm ((⟨0, 1, 1, kS, 10, 4, 0, 3, 0, 0⟩ : Pa)).a ((⟨0, 1, 1, kS, 10, 4, 0, 3, 0, 0⟩ : Pa)).b)) rfl rfl (fun _ w1 _ hI1 => pa_op (hP (hI1.res 0 rfl rfl)) (i := 0) (p := (⟨0, 1, 1, kS, 10, 4, 0, 3, 0, 0⟩ : Pa)) rfl (addT ⟨hb, 0, none⟩ 0 10 2)) ?_
  (refine gs ?_)
  refine gw ?_
  refine n_ldRI (.agg (opS ((⟨0, 1, 1, kS, 10, 4, 0, 3, 0, 0⟩ : Pa)).k ((⟨0, 1, 1, kS, 10, 4, 0, 3, 0, 0⟩ : Pa)).nm ((⟨0, 1, 1, kS, 10, 4, 0, 3, 0, 0⟩ : Pa)).a ((⟨0, 1, 1, kS, 10, 4, 0, 3, 0, 0⟩ : Pa)).b)) rfl (fun _ w1 _ hI1 => pa_op (hP (hI1.res 0 rfl rfl)) (i := 0) (p := (⟨0, 1, 1, kS, 10, 4, 0, 3, 0, 0⟩ : Pa)) rfl (addT ⟨hb, 0, none⟩ 0 10 2)) ?_
  (refine gs ?_)
  refine gw ?_
  refine n_ldRI (.agg [.int .i64 0, .int .i64 1]) rfl (fun _ w1 _ hI1 => pa_call (hP (hI1.res 0 rfl rfl)) (i := 0) (p := (⟨0, 1, 1, kS, 10, 4, 0, 3, 0, 0⟩ : Pa)) rfl (addT ⟨hb, 0, none⟩ 0 10 0)) ?_
  (refine gs ?_)
  refine gw ?_
  refine n_ldDI (.agg [.int .i64 1, .int .i64 1]) rfl rfl (fun _ w1 _ hI1 => pa_call (hP (hI1.res 0 rfl rfl)) (i := 1) (p := (⟨1, 1, 7, kS, 0, 0, 2, 5, 0, 4⟩ : Pa)) rfl (addT ⟨hb, 0, none⟩ 1 10 0)) ?_
  (refine gs ?_)
  refine gw ?_
  refine n_ldDI (.agg (opS ((⟨1, 1, 7, kS, 0, 0, 2, 5, 0, 4⟩ : Pa)).k ((⟨1, 1, 7, kS, 0, 0, 2, 5, 0, 4⟩ : Pa)).nm ((⟨1, 1, 7, kS, 0, 0, 2, 5, 0, 4⟩ : Pa)).a ((⟨1, 1, 7, kS, 0, 0, 2, 5, 0, 4⟩ : Pa)).b)) rfl rfl (fun _ w1 _ hI1 => pa_op (hP (hI1.res 0 rfl rfl)) (i := 1) (p := (⟨1, 1, 7, kS, 0, 0, 2, 5, 0, 4⟩ : Pa)) rfl (addT ⟨hb, 0, none⟩ 1 10 2)) ?_
  (refine gs ?_)
  refine gw ?_
  refine n_ldRI (.agg (opS ((⟨1, 1, 7, kS, 0, 0, 2, 5, 0, 4⟩ : Pa)).k ((⟨1, 1, 7, kS, 0, 0, 2, 5, 0, 4⟩ : Pa)).nm ((⟨1, 1, 7, kS, 0, 0, 2, 5, 0, 4⟩ : Pa)).a ((⟨1, 1, 7, kS, 0, 0, 2, 5, 0, 4⟩ : Pa)).b)) rfl (fun _ w1 _ hI1 => pa_op (hP (hI1.res 0 rfl rfl)) (i := 1) (p := (⟨1, 1, 7, kS, 0, 0, 2, 5, 0, 4⟩ : Pa)) rfl (addT ⟨hb, 0, none⟩ 1 10 2)) ?_
  (refine gs ?_)
  refine gw ?_
  refine n_ldRI (.agg [.int .i64 1, .int .i64 1]) rfl (fun _ w1 _ hI1 => pa_call (hP (hI1.res 0 rfl rfl)) (i := 1) (p := (⟨1, 1, 7, kS, 0, 0, 2, 5, 0, 4⟩ : Pa)) rfl (addT ⟨hb, 0, none⟩ 1 10 0)) ?_
  (refine gs ?_)
  refine gw ?_
  refine n_buildN rfl rfl elemEff rfl rfl rfl rfl rfl rfl rfl rfl ?_
  (refine gs ?_)
  refine gw ?_
  refine n_call3 rfl fun b1 b2 b3 => ?_
  have hEf : ∀ {w1} {b : Nat} {E : List Ef}, Blk w1 b (E.flatMap Ef.l).toArray 52 → (efRes (some ⟨b, 0, none⟩) E).R w1 := fun h => rd_of_blk h
  refine n_sameP (ansS 0 0) rfl rfl rfl (fun _ w1 hp1 hI1 => (by have h := cVerify_ok (o := some ⟨hb, 0, none⟩) (L := firstL) (oe := some ⟨b3, 0, none⟩) (E := [efA, efB]) (w := w1) 2 2 (hP (hI1.res 0 rfl rfl)) (fun x hx => hI1.resLt 0 rfl rfl x (by first | exact hx | exact rd_inR hx | exact rd_inC hx)) (hEf ((hI1.blk_at hp1 3 rfl rfl rfl))) (fun x hx => by obtain rfl := rd_fp hx; exact ((hI1.blk_at hp1 3 rfl rfl rfl)).lt) (fun x hx hm => by obtain rfl := rd_fp hx; obtain rfl := rd_fp hm; exact hI1.ne_res 3 0 (by decide) rfl (pre_at hp1 rfl) rfl rfl rfl (by simp [cellsRes])) (by decide) (by decide) hf64 ef_ab; rw [ver_ab] at h; exact h)) ?_; (refine gs ?_)
  refine gw ?_
  refine n_buildN rfl rfl elemEff rfl rfl rfl rfl rfl rfl rfl rfl ?_
  (refine gs ?_)
  refine gw ?_
  refine n_call1 rfl fun b4 => ?_
  refine n_sameP (ansS 0 170) rfl rfl rfl (fun _ w1 hp1 hI1 => (by have h := cVerify_ok (o := some ⟨hb, 0, none⟩) (L := firstL) (oe := some ⟨b4, 0, none⟩) (E := [efB, efA]) (w := w1) 2 2 (hP (hI1.res 0 rfl rfl)) (fun x hx => hI1.resLt 0 rfl rfl x (by first | exact hx | exact rd_inR hx | exact rd_inC hx)) (hEf ((hI1.blk_at hp1 4 rfl rfl rfl))) (fun x hx => by obtain rfl := rd_fp hx; exact ((hI1.blk_at hp1 4 rfl rfl rfl)).lt) (fun x hx hm => by obtain rfl := rd_fp hx; obtain rfl := rd_fp hm; exact hI1.ne_res 4 0 (by decide) rfl (pre_at hp1 rfl) rfl rfl rfl (by simp [cellsRes])) (by decide) (by decide) hf64 ef_ba; rw [ver_ba] at h; exact h)) ?_; (refine gs ?_)
  refine gw ?_
  refine n_callN (fun y : Option Addr × Nat => oRes y [0, 1]) 3 (fun y => .tup [.raw (.slice y.1 2 y.2), .int .i64 0]) (fun y => .tuple #[.slice y.1 2 y.2, .int .i64 0]) (fun _ => True) rfl rfl rfl (fun _ => rfl) (fun w1 hI1 => by have h := Search_ok (o := some ⟨hb, 0, none⟩) (L := firstL) (w := w1) 2 (hP (hI1.res 0 rfl rfl)) (fun x hx => hI1.resLt 0 rfl rfl x (by first | exact hx | exact rd_inR hx | exact rd_inC hx)) (by decide) first_good; rw [sea_ab] at h; exact h) ?_
  rintro ⟨yo, yc⟩ _ hnew2
  (refine gs ?_)
  refine gw ?_
  refine n_buildN rfl rfl elemInt rfl rfl rfl rfl rfl rfl rfl rfl ?_
  (refine gs ?_)
  refine gw ?_
  refine n_call1 rfl fun b6 => ?_
  refine n_sameP (.bool true) rfl rfl rfl (fun _ w1 hp1 hI1 => same_ok (l := [0, 1]) yc 2 (rd_of_row (hI1.res 5 rfl rfl)) (fun x hx => hI1.resLt 5 rfl rfl x (by first | exact hx | exact rd_inR hx | exact rd_inC hx)) (rd_of_blk ((hI1.blk_at hp1 6 rfl rfl rfl))) (fun x hx => by obtain rfl := rd_fp hx; exact ((hI1.blk_at hp1 6 rfl rfl rfl)).lt) (by decide)) ?_; (refine gs ?_)
  refine gw ?_
  exact n_ret0 rfl rfl fun ids' w' hp hI' => ⟨rfl, hI'.frm⟩
end Go.Proofs.Ytfcbcgjgkleonaa
