/- Chapter 5's law: lately. -/
import Derived.Test.YtjmaddmklogchaaWkC
set_option maxRecDepth 100000
set_option linter.unusedSimpArgs false
set_option linter.unusedVariables false
set_option maxHeartbeats 8000000
namespace Go.Proofs.Ytjmaddmklogchaa
open Go.RowKit

abbrev Le.mk' (e : Le) (j : Nat) : Res := tRow e.o e.xs.length e.cap (marks j e.xs.length)
abbrev klMemA (lo : Option Addr) (lc : Nat) (wo : Option Addr) (wc : Nat) (E : List Le) (A : List Res) : Mem := [⟨51, [.lit true, .raw (.slice lo E.length lc), .raw (.slice wo E.length wc), .raw (.slice none 0 0)], true⟩, ⟨31, [.res (svRow lo E.length lc (E.map Le.s1))], true⟩, ⟨31, [.res (svRow wo E.length wc (E.map Le.s2))], true⟩, ⟨54, [.res (allRes A)], true⟩, ⟨54, [.res (rdsRes (Kl.G E))], true⟩]
theorem kp0_ok : Kp.ok ⟨none, 0, [], none, 0, [], []⟩ := ⟨rfl, fun i x m h => by simp at h, by simp, by simp⟩
theorem klately_ok {p : Nat} {K : Kl} {w : World} (hE : K.E.length ≤ 10995116277) (hxs : ∀ e ∈ K.E, e.xs.length ≤ 10995116277) (hR : (klRes p K).R w) :
    Calls Try.prog 35 #[pV p] w fun e w' => e = .returned (.bool true) ∧ Frm (klRes p K).fp w w' := by
  obtain ⟨lo, lc, wo, wc, E⟩ := K
  dsimp only at hE hxs
  have hI : Inv (cx 73 [] (klRes p ⟨lo, lc, wo, wc, E⟩).fp w) w [p, 0, 0, 0, 0] (klMem ⟨lo, lc, wo, wc, E⟩) := memRes_open hR fun x hx => hx
  refine calls_sm (cx 73 [] (klRes p ⟨lo, lc, wo, wc, E⟩).fp w) (vals := [.ptr 0 0]) mixed Try.func35 rfl rfl rfl hI rfl (st rfl ?_); conv => arg 3; whnf
  refine gw ?_
  have hlg : 0 < E.length → (∃ gl, lo = some ⟨gl, 0, none⟩) ∧ ∃ gv, wo = some ⟨gv, 0, none⟩ := fun h => ⟨rowRes_some' (memRes_res hR 1 rfl rfl) h, rowRes_some' (memRes_res hR 2 rfl rfl) h⟩
  refine n_loop (σ := Nat) (fun i => [(0, .ptr 0 0), (3, .int .i64 (i : Nat))]) (fun _ => klMemA lo lc wo wc E (E.map Le.res)) (fun i => i ≤ E.length) (fun i => E.length - i) 0 mixed (by omega) (fun _ _ => rfl) rfl (by (repeat (first | exact trivial | refine ⟨⟨rfl, rfl⟩, ?_⟩))) (fun s _ => ⟨by (repeat (first | exact trivial | refine ⟨⟨_, rfl⟩, ?_⟩)), by (repeat (first | exact trivial | refine ⟨⟨_, rfl⟩, ?_⟩))⟩) fun i hi => ?_
  (refine gs ?_)
  by_cases hil : i < E.length
  · have ei : IntKind.i64.wrap ((i : Int) + 1) = ((i + 1 : Nat) : Int) := by rw [w64 (by omega) (by omega)]; simp
    have hx : E[i]? = some E[i] := List.getElem?_eq_getElem _
    have hxb := hxs _ (List.getElem_mem hil)
    generalize E[i] = x at hx hxb
    obtain ⟨⟨gl, rfl⟩, ⟨gv, rfl⟩⟩ := hlg (by omega)
    have hc1 : ∀ {w1}, (svRow (some ⟨gl, 0, none⟩) E.length lc (E.map Le.s1)).R w1 → w1.cell? ((⟨gl, 0, none⟩ : Addr).add (i * 1)) = some x.s1 := fun h => rowRes_cell h (by rw [Nat.mul_one, List.getElem?_map, hx]; rfl)
    have hc2 : ∀ {w1}, (svRow (some ⟨gv, 0, none⟩) E.length wc (E.map Le.s2)).R w1 → w1.cell? ((⟨gv, 0, none⟩ : Addr).add (i * 1)) = some x.s2 := fun h => rowRes_cell h (by rw [Nat.mul_one, List.getElem?_map, hx]; rfl)
    have hr1 : ∀ {w1}, (allRes (E.map Le.res)).R w1 → (readRes x.o (tms x.xs)).R w1 := fun h => rd_of_row (all_at h (i := i) (r := x.res) (by rw [List.getElem?_map, hx]; rfl))
    have hr2 : ∀ {w1}, (rdsRes (Kl.G E)).R w1 → (readRes x.o2 (tms x.xs)).R w1 := fun h => h (x.o2, tms x.xs) (List.mem_map.2 ⟨x, List.mem_of_getElem? hx, rfl⟩)
    (repeat ((first | refine n_must rfl ?_ | refine n_chk (drawF_ok (by decide +kernel)) ?_ | refine n_same rfl ?_ | ((first | refine n_must ?_ ?_ | refine n_brT ?_ ?_); (focus (first | (simp [hil]; done) | (simp [hil]; omega) | (simp only [hil]; simp; done)))) | (refine n_brF ?_ ?_; (focus (first | (simp [hil]; done) | (simp [hil]; omega) | (simp only [hil]; simp; done)))) | refine n_must (by (with_reducible refine and_shape ?_) <;> kernel_rfl) ?_); (refine gs ?_)))
    (refine n_ldA (.raw x.s1) rfl (by first | exact trivial | rfl) rfl (fun _ w1 _ hI1 => load_cell aggTms (hc1 (hI1.res 1 rfl rfl))) ?_; (refine gs ?_))
    (repeat ((first | refine n_must rfl ?_ | refine n_chk (drawF_ok (by decide +kernel)) ?_ | refine n_same rfl ?_ | ((first | refine n_must ?_ ?_ | refine n_brT ?_ ?_); (focus (first | (simp [hil]; done) | (simp [hil]; omega) | (simp only [hil]; simp; done)))) | (refine n_brF ?_ ?_; (focus (first | (simp [hil]; done) | (simp [hil]; omega) | (simp only [hil]; simp; done)))) | refine n_must (by (with_reducible refine and_shape ?_) <;> kernel_rfl) ?_); (refine gs ?_)))
    (refine n_ldA (.raw x.s2) rfl (by first | exact trivial | rfl) rfl (fun _ w1 _ hI1 => load_cell aggTms (hc2 (hI1.res 2 rfl rfl))) ?_; (refine gs ?_))
    (repeat ((first | refine n_must rfl ?_ | refine n_chk (drawF_ok (by decide +kernel)) ?_ | refine n_same rfl ?_ | ((first | refine n_must ?_ ?_ | refine n_brT ?_ ?_); (focus (first | (simp [hil]; done) | (simp [hil]; omega) | (simp only [hil]; simp; done)))) | (refine n_brF ?_ ?_; (focus (first | (simp [hil]; done) | (simp [hil]; omega) | (simp only [hil]; simp; done)))) | refine n_must (by (with_reducible refine and_shape ?_) <;> kernel_rfl) ?_); (refine gs ?_)))
    refine n_sameP (.bool true) rfl rfl rfl (fun _ w1 hp1 hI1 => same_ok x.cap x.c2 (hr1 (hI1.res 3 rfl rfl)) (rd_lt (hr1 (hI1.res 3 rfl rfl))) (hr2 (hI1.res 4 rfl rfl)) (rd_lt (hr2 (hI1.res 4 rfl rfl))) (by omega)) ?_; (refine gs ?_)
    refine gw ?_
    exact n_again ⟨i + 1, by omega, by omega, (by (repeat (first | exact trivial | refine ⟨⟨rfl, rfl⟩, ?_⟩ | refine ⟨⟨rfl, congrArg (SV.int .i64) ei⟩, ?_⟩))), ⟨_, rfl⟩⟩
  · obtain rfl : i = E.length := by omega
    refine gw ?_
    refine n_exit rfl ?_
    (refine gs ?_)
    refine gw ?_
    refine n_loop1 rfl fun b => ?_
    refine n_loopM (σ := Nat × List Res) (fun t => [(0, .ptr 0 0), (4, .ptr 5 0), (5, .int .i64 (t.1 : Nat))]) (fun t => klMemA lo lc wo wc E t.2 ++ [⟨51, [.lit false, .raw (.slice none 0 0), .raw (.slice none 0 0), .raw (.slice none 0 0)], true⟩]) (fun t => t.1 ≤ E.length ∧ ∀ (j : Nat) (e : Le), E[j]? = some e → t.2[j]? = some (if j < t.1 then e.mk' j else e.res)) (fun t => E.length - t.1) (0, E.map Le.res) mixed ⟨by dsimp only; omega, fun j e he => by rw [if_neg (by dsimp only; omega), List.getElem?_map, he]; rfl⟩ (fun _ _ => rfl) (fun _ h => h) rfl (by (repeat (first | exact trivial | refine ⟨⟨rfl, rfl⟩, ?_⟩))) (fun s _ => ⟨by (repeat (first | exact trivial | refine ⟨⟨_, rfl⟩, ?_⟩)), by (repeat (first | exact trivial | refine ⟨⟨_, rfl⟩, ?_⟩))⟩) fun t ht => ?_
    obtain ⟨i, A⟩ := t
    obtain ⟨hi, hA⟩ := ht
    dsimp only at hi hA ⊢
    (refine gs ?_)
    by_cases hil : i < E.length
    · have ei : IntKind.i64.wrap ((i : Int) + 1) = ((i + 1 : Nat) : Int) := by rw [w64 (by omega) (by omega)]; simp
      have hx : E[i]? = some E[i] := List.getElem?_eq_getElem _
      have hxb := hxs _ (List.getElem_mem hil)
      generalize E[i] = x at hx hxb
      have hAi := hA i x hx
      rw [if_neg (by omega)] at hAi
      have hAl := (List.getElem?_eq_some_iff.1 hAi).1
      obtain ⟨⟨gl, rfl⟩, ⟨gv, rfl⟩⟩ := hlg (by omega)
      have hc1 : ∀ {w1}, (svRow (some ⟨gl, 0, none⟩) E.length lc (E.map Le.s1)).R w1 → w1.cell? ((⟨gl, 0, none⟩ : Addr).add (i * 1)) = some x.s1 := fun h => rowRes_cell h (by rw [Nat.mul_one, List.getElem?_map, hx]; rfl)
      (repeat ((first | refine n_must rfl ?_ | refine n_chk (drawF_ok (by decide +kernel)) ?_ | refine n_same rfl ?_ | ((first | refine n_must ?_ ?_ | refine n_brT ?_ ?_); (focus (first | (simp [hil]; done) | (simp [hil]; omega) | (simp only [hil]; simp; done)))) | (refine n_brF ?_ ?_; (focus (first | (simp [hil]; done) | (simp [hil]; omega) | (simp only [hil]; simp; done)))) | refine n_must (by (with_reducible refine and_shape ?_) <;> kernel_rfl) ?_); (refine gs ?_)))
      (refine n_ldA (.raw x.s1) rfl (by first | exact trivial | rfl) rfl (fun _ w1 _ hI1 => load_cell aggTms (hc1 (hI1.res 1 rfl rfl))) ?_; (refine gs ?_))
      (repeat ((first | refine n_must rfl ?_ | refine n_chk (drawF_ok (by decide +kernel)) ?_ | refine n_same rfl ?_ | ((first | refine n_must ?_ ?_ | refine n_brT ?_ ?_); (focus (first | (simp [hil]; done) | (simp [hil]; omega) | (simp only [hil]; simp; done)))) | (refine n_brF ?_ ?_; (focus (first | (simp [hil]; done) | (simp [hil]; omega) | (simp only [hil]; simp; done)))) | refine n_must (by (with_reducible refine and_shape ?_) <;> kernel_rfl) ?_); (refine gs ?_)))
      refine n_callX [0] _ rfl (fun w1 hI1 => (hI1.lessR 3 rfl rfl rfl (fun h => all_out h hAi)).part2 3 rfl rfl 54) ?_
      refine n_callR (Y := Unit) 6 (fun _ => x.mk' i) (fun _ => .tup []) (fun _ => .tuple #[]) (fun _ => True) rfl rfl (fun _ => rfl) rfl rfl rfl (fun _ w1 _ hI1 hR1 => (kfill_ok (l := tms x.xs) (tms_len _) (by omega) hR1).mono fun e w' ⟨he, hf⟩ => ⟨(), he, trivial, hf⟩) ?_
      intro _ _
      (refine gs ?_)
      refine gw ?_
      refine n_againM fun ids' w' hp hI' => ⟨(i + 1, (A.set i Res.none).set i (x.mk' i)), ⟨by dsimp only; omega, fun j e he => ?_⟩, by dsimp only; omega, (by (repeat (first | exact trivial | refine ⟨⟨rfl, rfl⟩, ?_⟩ | refine ⟨⟨rfl, congrArg (SV.int .i64) ei⟩, ?_⟩))), [⟨54, [.res Res.none], true⟩], hI'.join 3 6 (by decide) rfl rfl rfl rfl rfl rfl (fun h => all_in h (by rw [List.getElem?_set_self hAl]))⟩
      dsimp only
      by_cases hji : j = i
      · subst hji
        rw [hx] at he; simp at he; subst he
        rw [List.getElem?_set_self (by simpa using hAl), if_pos (by omega)]
      · rw [List.getElem?_set_ne (Ne.symm hji), List.getElem?_set_ne (Ne.symm hji), hA j e he]
        by_cases h : j < i
        · rw [if_pos h, if_pos (by omega)]
        · rw [if_neg h, if_neg (by omega)]
    · obtain rfl : i = E.length := by omega
      refine gw ?_
      refine n_exitM rfl ?_
      (refine gs ?_)
      refine gw ?_
      refine n_loopX [0, 0, 0, 0] (klMemA lo lc wo wc E A ++ [⟨51, [.res Res.none], true⟩, ⟨31, [.res Res.none], true⟩, ⟨3, [.res Res.none], true⟩, ⟨54, [.res Res.none], true⟩, ⟨51, [.res (kpRes b ⟨none, 0, [], none, 0, [], []⟩)], true⟩]) rfl (fun w1 hI1 => ?_) ?_
      · have h1 := hI1.addR (Frm.refl [] w1) (lsRow none 0 []) 31 true (rowRes_nil _ _ _) (by simp [rowRes]) (by simp [rowRes])
        have h2 := h1.addR (Frm.refl [] w1) (msRow none 0 []) 3 true (rowRes_nil _ _ _) (by simp [rowRes]) (by simp [rowRes])
        have h3 := h2.addR (Frm.refl [] w1) (rdsRes []) 54 true (fun x hx => by simp at hx) (by simp [rdsRes]) (by simp [rdsRes])
        exact h3.gather (ids0 := [b, 0, 0, 0]) (mem0 := kpMem ⟨none, 0, [], none, 0, [], []⟩) [5, 6, 7, 8] (.blk rfl rfl rfl rfl (.res rfl (.res rfl (.res rfl .nil)))) (by decide) 51
      refine n_loopM (σ := Nat × List Res × Kp) (fun t => [(0, .ptr 0 0), (4, .ptr 5 0), (6, .int .i64 (t.1 : Nat))]) (fun t => klMemA lo lc wo wc E t.2.1 ++ [⟨51, [.res Res.none], true⟩, ⟨31, [.res Res.none], true⟩, ⟨3, [.res Res.none], true⟩, ⟨54, [.res Res.none], true⟩, ⟨51, [.res (kpRes b t.2.2)], true⟩]) (fun t => t.1 ≤ E.length ∧ (∀ (j : Nat) (e : Le), E[j]? = some e → t.1 ≤ j → t.2.1[j]? = some (e.mk' j)) ∧ t.2.2.ok ∧ t.2.2.Ls.length ≤ 41 * t.1) (fun t => E.length - t.1) (0, A, ⟨none, 0, [], none, 0, [], []⟩) mixed ⟨by dsimp only; omega, fun j e he _ => by rw [hA j e he, if_pos (List.getElem?_eq_some_iff.1 he).1], kp0_ok, by simp⟩ (fun _ _ => rfl) (fun _ h => h) rfl (by (repeat (first | exact trivial | refine ⟨⟨rfl, rfl⟩, ?_⟩))) (fun s _ => ⟨by (repeat (first | exact trivial | refine ⟨⟨_, rfl⟩, ?_⟩)), by (repeat (first | exact trivial | refine ⟨⟨_, rfl⟩, ?_⟩))⟩) fun t ht => ?_
      obtain ⟨i, A, K⟩ := t
      obtain ⟨hi, hA, hK, hKl⟩ := ht
      dsimp only at hi hA hK hKl ⊢
      (refine gs ?_)
      by_cases hil : i < E.length
      · have ei : IntKind.i64.wrap ((i : Int) + 1) = ((i + 1 : Nat) : Int) := by rw [w64 (by omega) (by omega)]; simp
        have hx : E[i]? = some E[i] := List.getElem?_eq_getElem _
        have hxb := hxs _ (List.getElem_mem hil)
        generalize E[i] = x at hx hxb
        have hAi := hA i x hx (Nat.le_refl _)
        have hAl := (List.getElem?_eq_some_iff.1 hAi).1
        obtain ⟨⟨gl, rfl⟩, ⟨gv, rfl⟩⟩ := hlg (by omega)
        have hc1 : ∀ {w1}, (svRow (some ⟨gl, 0, none⟩) E.length lc (E.map Le.s1)).R w1 → w1.cell? ((⟨gl, 0, none⟩ : Addr).add (i * 1)) = some x.s1 := fun h => rowRes_cell h (by rw [Nat.mul_one, List.getElem?_map, hx]; rfl)
        (repeat ((first | refine n_must rfl ?_ | refine n_chk (drawF_ok (by decide +kernel)) ?_ | refine n_same rfl ?_ | ((first | refine n_must ?_ ?_ | refine n_brT ?_ ?_); (focus (first | (simp [hil]; done) | (simp [hil]; omega) | (simp only [hil]; simp; done)))) | (refine n_brF ?_ ?_; (focus (first | (simp [hil]; done) | (simp [hil]; omega) | (simp only [hil]; simp; done)))) | refine n_must (by (with_reducible refine and_shape ?_) <;> kernel_rfl) ?_); (refine gs ?_)))
        (refine n_ldA (.raw x.s1) rfl (by first | exact trivial | rfl) rfl (fun _ w1 _ hI1 => load_cell aggTms (hc1 (hI1.res 1 rfl rfl))) ?_; (refine gs ?_))
        (repeat ((first | refine n_must rfl ?_ | refine n_chk (drawF_ok (by decide +kernel)) ?_ | refine n_same rfl ?_ | ((first | refine n_must ?_ ?_ | refine n_brT ?_ ?_); (focus (first | (simp [hil]; done) | (simp [hil]; omega) | (simp only [hil]; simp; done)))) | (refine n_brF ?_ ?_; (focus (first | (simp [hil]; done) | (simp [hil]; omega) | (simp only [hil]; simp; done)))) | refine n_must (by (with_reducible refine and_shape ?_) <;> kernel_rfl) ?_); (refine gs ?_)))
        refine n_callX [0] _ rfl (fun w1 hI1 => ((hI1.lessR 3 rfl rfl rfl (fun h => all_out h hAi)).part2 3 rfl rfl 54).absorb 9 10 (by decide) rfl rfl rfl rfl rfl rfl) ?_
        refine n_callR (Y := Kp) 9 (fun K' => kpRes b K') (fun _ => .tup []) (fun _ => .tuple #[]) (fun K' => K'.ok ∧ K'.Ls.length ≤ K.Ls.length + 41) rfl rfl (fun _ => rfl) rfl rfl rfl (fun _ w1 _ hI1 hR1 => khold_ok (by omega) hxb hK (by omega) hR1) ?_
        rintro K' ⟨hK', hKl'⟩
        (refine gs ?_)
        refine gw ?_
        refine n_againM fun ids' w' hp hI' => ⟨(i + 1, A.set i Res.none, K'), ⟨by dsimp only; omega, fun j e he hj => ?_, hK', by dsimp only; omega⟩, by dsimp only; omega, (by (repeat (first | exact trivial | refine ⟨⟨rfl, rfl⟩, ?_⟩ | refine ⟨⟨rfl, congrArg (SV.int .i64) ei⟩, ?_⟩))), [⟨54, [.res Res.none], true⟩], hI'⟩
        dsimp only at hj ⊢
        rw [List.getElem?_set_ne (by omega)]
        exact hA j e he (by omega)
      · obtain rfl : i = E.length := by omega
        refine gw ?_
        refine n_exitM rfl ?_
        (refine gs ?_)
        refine gw ?_
        refine n_sameP (.bool true) rfl rfl rfl (fun _ w1 hp1 hI1 => kwhole_ok hK (by omega) (hI1.res 9 rfl rfl)) ?_; (refine gs ?_)
        refine gw ?_
        exact n_ret0 rfl rfl fun ids' w' hp hI' => ⟨rfl, hI'.frm⟩
theorem klwhole_ok {p : Nat} {K : Kl} {w : World} (hE : K.E.length ≤ 10995116277) (hxs : ∀ e ∈ K.E, e.xs.length ≤ 10995116277) (hR : (klRes p K).R w) :
    Calls Try.prog 22 #[pV p] w fun e w' => e = .returned (.bool true) ∧ Frm (klRes p K).fp w w' := by
  have hI : Inv (cx 51 [] (klRes p K).fp w) w [0] [⟨51, [.res (klRes p K)], true⟩] := (Inv.nil w).consR (by simp) hR (memRes_lt hR) (fun _ x hx => hx)
  refine calls_sm (cx 51 [] (klRes p K).fp w) (vals := [.raw (pV p)]) mixed Try.func22 rfl rfl rfl hI rfl (st rfl ?_); conv => arg 3; whnf
  refine gw ?_
  refine n_ldI (.lit true) rfl rfl (fun _ w1 _ hI1 => load_cell aggBool (blk_at (memRes_blk (hI1.res 0 rfl rfl) 0 rfl rfl rfl) (j := 0) rfl rfl)) ?_
  (refine gs ?_)
  refine gw ?_
  refine n_callR (Y := Unit) 0 (fun _ => Res.none) (fun _ => .bool true) (fun _ => .bool true) (fun _ => True) rfl rfl (fun _ => rfl) rfl rfl rfl (fun _ w1 _ hI1 hR1 => (klately_ok hE hxs hR1).mono fun e w' ⟨he, hf⟩ => ⟨(), he, trivial, hf, trivial, by simp [Res.none], by simp [Res.none]⟩) ?_
  intro _ _
  (refine gs ?_)
  refine gw ?_
  exact n_ret0 rfl rfl fun ids' w' hp hI' => ⟨rfl, hI'.frm⟩
end Go.Proofs.Ytjmaddmklogchaa
