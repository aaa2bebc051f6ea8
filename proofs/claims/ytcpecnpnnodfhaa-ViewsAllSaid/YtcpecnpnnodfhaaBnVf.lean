/- Chapter 9's law: apart. Chapter 9's law: what the pair answers, as new rows; marked. -/
import Derived.Test.YtcpecnpnnodfhaaVxK
import Derived.Test.YtcpecnpnnodfhaaBnVg
namespace Go.Proofs.Ytcpecnpnnodfhaa
section
set_option maxRecDepth 100000
set_option linter.unusedSimpArgs false
set_option linter.unusedVariables false
set_option maxHeartbeats 8000000
open Go.RowKit

theorem aggVws9 : aggB Try.prog 34 = some false := by kernel_rfl
theorem aggRts9 : aggB Try.prog 45 = some false := by kernel_rfl
theorem sizeVws9 : sizeB Try.prog 34 = some 1 := by kernel_rfl
theorem sizeRts9 : sizeB Try.prog 45 = some 1 := by kernel_rfl
abbrev SlT := Option Addr × Nat × Nat
abbrev dC (x : De × SlT) : List Value := [.slice x.1.l.1 x.1.L.length x.1.l.2, .slice x.1.w.1 x.1.L.length x.1.w.2, .slice x.2.1 x.2.2.1 x.2.2.2]
abbrev kC (x : Kn × SlT) : List Value := [.slice x.1.l.1 x.1.L.length x.1.l.2, .slice x.1.w.1 x.1.L.length x.1.w.2, .slice x.2.1 x.2.2.1 x.2.2.2]
theorem dC_len (x : De × SlT) : (dC x).length = 3 := rfl
theorem kC_len (x : Kn × SlT) : (kC x).length = 3 := rfl
theorem set_third {α : Type} {F : α × SlT → List Value} {G : α → List Value} (hF : ∀ x m, F (x, m) = G x ++ [.slice m.1 m.2.1 m.2.2]) (hG : ∀ x, (G x).length = 2) : ∀ {C : List (α × SlT)} {i : Nat} {e : α} {m m' : SlT} (_ : C[i]? = some (e, m)), (C.flatMap F).take (i * 3 + 2) ++ [Value.slice m'.1 m'.2.1 m'.2.2] ++ (C.flatMap F).drop (i * 3 + 2 + 1) = (C.set i (e, m')).flatMap F
  | [], i, e, m, m', h => by simp at h
  | y :: C, 0, e, m, m', h => by
    simp at h; subst h
    have h1 := hG e
    simp only [List.flatMap_cons, hF, List.set_cons_zero, Nat.zero_mul, Nat.zero_add]
    rw [List.take_append_of_le_length (by simp [h1]), List.take_append_of_le_length (by omega), List.take_of_length_le (by omega), List.drop_append, List.drop_of_length_le (by simp [h1])]
    simp [h1]
  | y :: C, i + 1, e, m, m', h => by
    have ih := set_third hF hG (C := C) (i := i) (e := e) (m := m) (m' := m') (by simpa using h)
    obtain ⟨y1, ym⟩ := y
    have h1 : (F (y1, ym)).length = 3 := by rw [hF]; simp [hG]
    simp only [List.flatMap_cons, List.set_cons_succ]
    rw [← ih, show (i + 1) * 3 + 2 = 3 + (i * 3 + 2) by omega, show 3 + (i * 3 + 2) + 1 = 3 + (i * 3 + 2 + 1) by omega]
    rw [List.take_append, List.take_of_length_le (by omega), h1, List.drop_append, List.drop_of_length_le (by omega), h1]
    simp
theorem flat_c0 {α : Type} {F : α × SlT → List Value} {G : α → List Value} (h : ∀ x, F (x, (none, 0, 0)) = G x) (l : List α) : (l.map fun x => (x, ((none, 0, 0) : SlT))).flatMap F = l.flatMap G := by
  rw [List.flatMap_map]
  congr 1
  funext x
  exact h x
/-- Readable: a list at this address begins so. -/
def Reads (G : List (Option Addr × List Value)) (o : Option Addr) (xs : List Value) : Prop := ∃ y ∈ G, y.1 = o ∧ xs <+: y.2
theorem Reads.rd {G : List (Option Addr × List Value)} {o : Option Addr} {xs : List Value} {w : World} (h : Reads G o xs) (hR : (rdsRes G).R w) : (readRes o xs).R w := by
  obtain ⟨y, hy, rfl, zs, e⟩ := h
  have := hR y hy
  rw [← e] at this
  exact rd_pre this
abbrev De.mk' (e : De) (i : Nat) : Res := (vRow e.l.1 e.L.length e.l.2 (vws (mksD i e.L.length))).both (vRow e.w.1 e.L.length e.w.2 (vws e.L))
def GrD (i : Nat) (e : De) (c : Option (De × SlT)) (r : Option Res) : Prop := ∃ m G, c = some (e, m) ∧ r = some (rdsRes G) ∧ Reads G e.l.1 (vws (mksD i e.L.length)) ∧ Reads G m.1 (vws (mksD i m.2.1)) ∧ m.2.1 ≤ 200000
theorem mixD {i k : Nat} {xs : List Value} : (vws (mksD i k) ++ xs.drop (k * 7)).take (k * 7) ++ (mkD i k).l ++ (vws (mksD i k) ++ xs.drop (k * 7)).drop (k * 7 + 7) = vws (mksD i (k + 1)) ++ xs.drop ((k + 1) * 7) := by
  have hl : (vws (mksD i k)).length = k * 7 := by rw [vws_len, mksD_len]
  rw [List.take_append_of_le_length (by omega), List.take_of_length_le (by omega), List.drop_append, List.drop_of_length_le (by omega), List.nil_append, List.drop_drop, hl, show k * 7 + (k * 7 + 7 - k * 7) = (k + 1) * 7 by omega, mksD_next, ← vws_add]
abbrev Kn.mk' (e : Kn) (i : Nat) : Res := (rRow e.l.1 e.L.length e.l.2 (rts (mksK i e.L.length))).both (rRow e.w.1 e.L.length e.w.2 (rts e.L))
def GrK (i : Nat) (e : Kn) (c : Option (Kn × SlT)) (r : Option Res) : Prop := ∃ m G, c = some (e, m) ∧ r = some (rdsRes G) ∧ Reads G e.l.1 (rts (mksK i e.L.length)) ∧ Reads G m.1 (rts (mksK i m.2.1)) ∧ m.2.1 ≤ 200000
theorem mixK {i k : Nat} {xs : List Value} : (rts (mksK i k) ++ xs.drop (k * 2)).take (k * 2) ++ rtL (mkK i k) ++ (rts (mksK i k) ++ xs.drop (k * 2)).drop (k * 2 + 2) = rts (mksK i (k + 1)) ++ xs.drop ((k + 1) * 2) := by
  have hl : (rts (mksK i k)).length = k * 2 := by rw [rts_len, mksK_len]
  rw [List.take_append_of_le_length (by omega), List.take_of_length_le (by omega), List.drop_append, List.drop_of_length_le (by omega), List.nil_append, List.drop_drop, hl, show k * 2 + (k * 2 + 2 - k * 2) = (k + 1) * 2 by omega, mksK_next, ← rts_add]
theorem apart_ok {bk N : Nat} {B : Bk} {w : World} (hB : B.ok N) (hN : N ≤ 300) (hR : (bkRes bk B).R w) : Calls Try.prog 24 #[pV bk] w fun e w' => e = .returned (.bool true) ∧ Frm (bkRes bk B).fp w w' := by
  obtain ⟨dgo, dgc, D, kno, knc, K⟩ := B
  obtain ⟨hdl, hkl, hds, hks⟩ := hB
  dsimp only at hdl hkl hds hks
  obtain ⟨ittD, hittD, hptD⟩ := Option.map_eq_some_iff.1 infoVw
  obtain ⟨ittK, hittK, hptK⟩ := Option.map_eq_some_iff.1 infoRt
  simp only [Prod.mk.injEq] at hptD hptK
  have hI : Inv (cx 333 [] (bkRes bk ⟨dgo, dgc, D, kno, knc, K⟩).fp w) w [bk, 0, 0, 0, 0] (bkMem ⟨dgo, dgc, D, kno, knc, K⟩) := memRes_open hR fun x hx => hx
  have hgD : 0 < D.length → ∃ g, dgo = some ⟨g, 0, none⟩ := fun h => rowRes_some' (memRes_res hR 1 rfl rfl) h
  have hgK : 0 < K.length → ∃ g, kno = some ⟨g, 0, none⟩ := fun h => rowRes_some' (memRes_res hR 2 rfl rfl) h
  have hlD : ∀ (j : Nat) e, D[j]? = some e → 0 < e.L.length → ∃ g, e.l.1 = some ⟨g, 0, none⟩ := fun j e he h => rowRes_some' (all_at (memRes_res hR 3 rfl rfl) (i := j) (r := e.res) (by rw [List.getElem?_map, he]; rfl)).1 h
  have hlK : ∀ (j : Nat) e, K[j]? = some e → 0 < e.L.length → ∃ g, e.l.1 = some ⟨g, 0, none⟩ := fun j e he h => rowRes_some' (all_at (memRes_res hR 4 rfl rfl) (i := j) (r := e.res) (by rw [List.getElem?_map, he]; rfl)).1 h
  refine calls_sm (cx 333 [] (bkRes bk ⟨dgo, dgc, D, kno, knc, K⟩).fp w) (vals := [.ptr 0 0]) mixed Try.func24 rfl rfl rfl hI rfl (st rfl ?_); conv => arg 3; whnf
  refine gw ?_
  refine n_loop (σ := Nat) (fun i => [(0, .ptr 0 0), (3, .lit true), (4, .int .i64 (i : Nat))]) (fun _ => [⟨69, [.raw (.slice dgo D.length dgc), .raw (.slice kno K.length knc)], true⟩, ⟨100, [.res (rowRes 100 3 dgo D.length dgc (D.flatMap De.c))], true⟩, ⟨103, [.res (rowRes 103 3 kno K.length knc (K.flatMap Kn.c))], true⟩, ⟨49, [.res (allRes (D.map De.res))], true⟩, ⟨47, [.res (allRes (K.map Kn.res))], true⟩]) (fun i => i ≤ D.length) (fun i => D.length - i) 0 mixed (by omega) (fun _ _ => rfl) rfl (by (repeat (first | exact trivial | refine ⟨⟨rfl, rfl⟩, ?_⟩))) (fun _ _ => ⟨by (repeat (first | exact trivial | refine ⟨⟨_, rfl⟩, ?_⟩)), by (repeat (first | exact trivial | refine ⟨⟨_, rfl⟩, ?_⟩))⟩) fun i hi => ?_
  (refine gs ?_)
  refine gw ?_
  by_cases hil : i < D.length
  · as_aux_lemma =>
    have ei : IntKind.i64.wrap ((i : Int) + 1) = ((i + 1 : Nat) : Int) := by rw [w64 (by omega) (by omega)]; simp
    have ew : IntKind.i64.wrap (-1000 - (i : Int)) = -1000 - (i : Int) := w64 (by omega) (by omega)
    have hx : D[i]? = some D[i] := List.getElem?_eq_getElem _
    have hb := hds _ (List.getElem_mem hil)
    have hls := hlD i _ hx
    generalize D[i] = e at hx hb hls
    obtain ⟨g, rfl⟩ := hgD (by omega)
    have hAi : (D.map De.res)[i]? = some e.res := by rw [List.getElem?_map, hx]; rfl
    (repeat ((first | refine n_must rfl ?_ | refine n_chk (drawF_ok (by decide +kernel)) ?_ | refine n_same rfl ?_ | ((first | refine n_must ?_ ?_ | refine n_brT ?_ ?_); (focus (first | (simp [hil]; done) | (simp [hil]; omega) | (simp only [hil]; simp; done)))) | (refine n_brF ?_ ?_; (focus (first | (simp [hil]; done) | (simp [hil]; omega) | (simp only [hil]; simp; done)))) | refine n_must (by (with_reducible refine and_shape ?_) <;> kernel_rfl) ?_); (refine gs ?_)))
    (refine n_ldA (.raw (.slice e.l.1 e.L.length e.l.2)) rfl (by first | exact trivial | rfl) rfl (fun _ w1 _ hI1 => load_cell aggVws9 (row_at de_len (hI1.res 1 rfl rfl) hx (j := 0) (by omega) rfl (by simp [add_add]))) ?_; (refine gs ?_))
    (repeat ((first | refine n_must rfl ?_ | refine n_chk (drawF_ok (by decide +kernel)) ?_ | refine n_same rfl ?_ | ((first | refine n_must ?_ ?_ | refine n_brT ?_ ?_); (focus (first | (simp [hil]; done) | (simp [hil]; omega) | (simp only [hil]; simp; done)))) | (refine n_brF ?_ ?_; (focus (first | (simp [hil]; done) | (simp [hil]; omega) | (simp only [hil]; simp; done)))) | refine n_must (by (with_reducible refine and_shape ?_) <;> kernel_rfl) ?_); (refine gs ?_)))
    (refine n_ldA (.raw (.slice e.w.1 e.L.length e.w.2)) rfl (by first | exact trivial | rfl) rfl (fun _ w1 _ hI1 => load_cell aggVws9 (row_at de_len (hI1.res 1 rfl rfl) hx (j := 1) (by omega) rfl (by simp [add_add]))) ?_; (refine gs ?_))
    refine gw ?_
    refine n_sameP (.lit true) rfl rfl rfl (fun _ w1 hp1 hI1 => all_n e.l.2 e.w.2 rfl (rd_of_row (all_at (hI1.res 3 rfl rfl) hAi).1) (rd_of_row (all_at (hI1.res 3 rfl rfl) hAi).2.1) (by omega)) ?_; (refine gs ?_)
    refine gw ?_
    exact n_again ⟨i + 1, by omega, by omega, (by (repeat (first | exact trivial | refine ⟨⟨rfl, rfl⟩, ?_⟩ | refine ⟨⟨rfl, congrArg (SV.int .i64) ei⟩, ?_⟩))), ⟨_, rfl⟩⟩
  · obtain rfl : i = D.length := by omega
    (repeat ((first | refine n_must rfl ?_ | refine n_chk (drawF_ok (by decide +kernel)) ?_ | refine n_same rfl ?_ | ((first | refine n_must ?_ ?_ | refine n_brT ?_ ?_); (focus (first | (simp [hil]; done) | (simp [hil]; omega) | (simp only [hil]; simp; done)))) | (refine n_brF ?_ ?_; (focus (first | (simp [hil]; done) | (simp [hil]; omega) | (simp only [hil]; simp; done)))) | refine n_must (by (with_reducible refine and_shape ?_) <;> kernel_rfl) ?_); (refine gs ?_)))
    refine n_exit rfl ?_
    as_aux_lemma =>
    (refine gs ?_)
    refine gw ?_
    refine n_loop (σ := Nat) (fun i => [(0, .ptr 0 0), (3, .lit true), (5, .int .i64 (i : Nat))]) (fun _ => [⟨69, [.raw (.slice dgo D.length dgc), .raw (.slice kno K.length knc)], true⟩, ⟨100, [.res (rowRes 100 3 dgo D.length dgc (D.flatMap De.c))], true⟩, ⟨103, [.res (rowRes 103 3 kno K.length knc (K.flatMap Kn.c))], true⟩, ⟨49, [.res (allRes (D.map De.res))], true⟩, ⟨47, [.res (allRes (K.map Kn.res))], true⟩]) (fun i => i ≤ K.length) (fun i => K.length - i) 0 mixed (by omega) (fun _ _ => rfl) rfl (by (repeat (first | exact trivial | refine ⟨⟨rfl, rfl⟩, ?_⟩))) (fun _ _ => ⟨by (repeat (first | exact trivial | refine ⟨⟨_, rfl⟩, ?_⟩)), by (repeat (first | exact trivial | refine ⟨⟨_, rfl⟩, ?_⟩))⟩) fun i hi => ?_
    (refine gs ?_)
    refine gw ?_
    by_cases hil : i < K.length
    · as_aux_lemma =>
      have ei : IntKind.i64.wrap ((i : Int) + 1) = ((i + 1 : Nat) : Int) := by rw [w64 (by omega) (by omega)]; simp
      have ew : IntKind.i64.wrap (-1000 - (i : Int)) = -1000 - (i : Int) := w64 (by omega) (by omega)
      have hx : K[i]? = some K[i] := List.getElem?_eq_getElem _
      have hb := hks _ (List.getElem_mem hil)
      have hls := hlK i _ hx
      generalize K[i] = e at hx hb hls
      obtain ⟨g, rfl⟩ := hgK (by omega)
      have hAi : (K.map Kn.res)[i]? = some e.res := by rw [List.getElem?_map, hx]; rfl
      (repeat ((first | refine n_must rfl ?_ | refine n_chk (drawF_ok (by decide +kernel)) ?_ | refine n_same rfl ?_ | ((first | refine n_must ?_ ?_ | refine n_brT ?_ ?_); (focus (first | (simp [hil]; done) | (simp [hil]; omega) | (simp only [hil]; simp; done)))) | (refine n_brF ?_ ?_; (focus (first | (simp [hil]; done) | (simp [hil]; omega) | (simp only [hil]; simp; done)))) | refine n_must (by (with_reducible refine and_shape ?_) <;> kernel_rfl) ?_); (refine gs ?_)))
      (refine n_ldA (.raw (.slice e.l.1 e.L.length e.l.2)) rfl (by first | exact trivial | rfl) rfl (fun _ w1 _ hI1 => load_cell aggRts9 (row_at kn_len (hI1.res 2 rfl rfl) hx (j := 0) (by omega) rfl (by simp [add_add]))) ?_; (refine gs ?_))
      (repeat ((first | refine n_must rfl ?_ | refine n_chk (drawF_ok (by decide +kernel)) ?_ | refine n_same rfl ?_ | ((first | refine n_must ?_ ?_ | refine n_brT ?_ ?_); (focus (first | (simp [hil]; done) | (simp [hil]; omega) | (simp only [hil]; simp; done)))) | (refine n_brF ?_ ?_; (focus (first | (simp [hil]; done) | (simp [hil]; omega) | (simp only [hil]; simp; done)))) | refine n_must (by (with_reducible refine and_shape ?_) <;> kernel_rfl) ?_); (refine gs ?_)))
      (refine n_ldA (.raw (.slice e.w.1 e.L.length e.w.2)) rfl (by first | exact trivial | rfl) rfl (fun _ w1 _ hI1 => load_cell aggRts9 (row_at kn_len (hI1.res 2 rfl rfl) hx (j := 1) (by omega) rfl (by simp [add_add]))) ?_; (refine gs ?_))
      refine gw ?_
      refine n_sameP (.lit true) rfl rfl rfl (fun _ w1 hp1 hI1 => rights_n (cap := e.l.2) (cap2 := e.w.2) rfl (rd_of_row (all_at (hI1.res 4 rfl rfl) hAi).1) (rd_of_row (all_at (hI1.res 4 rfl rfl) hAi).2.1) (by omega)) ?_; (refine gs ?_)
      refine gw ?_
      exact n_again ⟨i + 1, by omega, by omega, (by (repeat (first | exact trivial | refine ⟨⟨rfl, rfl⟩, ?_⟩ | refine ⟨⟨rfl, congrArg (SV.int .i64) ei⟩, ?_⟩))), ⟨_, rfl⟩⟩
    · obtain rfl : i = K.length := by omega
      (repeat ((first | refine n_must rfl ?_ | refine n_chk (drawF_ok (by decide +kernel)) ?_ | refine n_same rfl ?_ | ((first | refine n_must ?_ ?_ | refine n_brT ?_ ?_); (focus (first | (simp [hil]; done) | (simp [hil]; omega) | (simp only [hil]; simp; done)))) | (refine n_brF ?_ ?_; (focus (first | (simp [hil]; done) | (simp [hil]; omega) | (simp only [hil]; simp; done)))) | refine n_must (by (with_reducible refine and_shape ?_) <;> kernel_rfl) ?_); (refine gs ?_)))
      refine n_exit rfl ?_
      as_aux_lemma =>
      (refine gs ?_)
      refine gw ?_
      refine n_loopM (σ := Nat × List Res) (fun t => [(0, .ptr 0 0), (3, .lit true), (6, .int .i64 (t.1 : Nat))]) (fun t => [⟨69, [.raw (.slice dgo D.length dgc), .raw (.slice kno K.length knc)], true⟩, ⟨100, [.res (rowRes 100 3 dgo D.length dgc (D.flatMap De.c))], true⟩, ⟨103, [.res (rowRes 103 3 kno K.length knc (K.flatMap Kn.c))], true⟩, ⟨49, [.res (allRes (t.2))], true⟩, ⟨47, [.res (allRes (K.map Kn.res))], true⟩]) (fun t => t.1 ≤ D.length ∧ ∀ (j : Nat) (e : De), D[j]? = some e → t.2[j]? = some (if j < t.1 then e.mk' j else e.res)) (fun t => D.length - t.1) (0, D.map De.res) mixed ⟨by dsimp only; omega, fun j e he => by rw [if_neg (by dsimp only; omega), List.getElem?_map, he]; rfl⟩ (fun _ _ => rfl) (fun _ h => h) rfl (by (repeat (first | exact trivial | refine ⟨⟨rfl, rfl⟩, ?_⟩))) (fun _ _ => ⟨by (repeat (first | exact trivial | refine ⟨⟨_, rfl⟩, ?_⟩)), by (repeat (first | exact trivial | refine ⟨⟨_, rfl⟩, ?_⟩))⟩) fun t ht => ?_
      obtain ⟨i, A⟩ := t
      obtain ⟨hi, hA⟩ := ht
      dsimp only at hi hA ⊢
      (refine gs ?_)
      refine gw ?_
      by_cases hil : i < D.length
      · as_aux_lemma =>
        have ei : IntKind.i64.wrap ((i : Int) + 1) = ((i + 1 : Nat) : Int) := by rw [w64 (by omega) (by omega)]; simp
        have ew : IntKind.i64.wrap (-1000 - (i : Int)) = -1000 - (i : Int) := w64 (by omega) (by omega)
        have hx : D[i]? = some D[i] := List.getElem?_eq_getElem _
        have hb := hds _ (List.getElem_mem hil)
        have hls := hlD i _ hx
        generalize D[i] = e at hx hb hls
        obtain ⟨g, rfl⟩ := hgD (by omega)
        have hAi := hA i e hx
        rw [if_neg (by omega)] at hAi
        have hAl := (List.getElem?_eq_some_iff.1 hAi).1
        have hsl : (vws e.L).length = e.L.length * 7 := vws_len _
        (repeat ((first | refine n_must rfl ?_ | refine n_chk (drawF_ok (by decide +kernel)) ?_ | refine n_same rfl ?_ | ((first | refine n_must ?_ ?_ | refine n_brT ?_ ?_); (focus (first | (simp [hil]; done) | (simp [hil]; omega) | (simp only [hil]; simp; done)))) | (refine n_brF ?_ ?_; (focus (first | (simp [hil]; done) | (simp [hil]; omega) | (simp only [hil]; simp; done)))) | refine n_must (by (with_reducible refine and_shape ?_) <;> kernel_rfl) ?_); (refine gs ?_)))
        refine n_loopX [0, 0] ([⟨69, [.raw (.slice (some ⟨g, 0, none⟩) D.length dgc), .raw (.slice kno K.length knc)], true⟩, ⟨100, [.res (rowRes 100 3 (some ⟨g, 0, none⟩) D.length dgc (D.flatMap De.c))], true⟩, ⟨103, [.res (rowRes 103 3 kno K.length knc (K.flatMap Kn.c))], true⟩, ⟨49, [.res (allRes (A.set i Res.none))], true⟩, ⟨47, [.res (allRes (K.map Kn.res))], true⟩, ⟨49, [.res (vRow e.l.1 e.L.length e.l.2 (vws (mksD i 0) ++ (vws e.L).drop (0 * 7)))], true⟩, ⟨49, [.res (vRow e.w.1 e.L.length e.w.2 (vws e.L))], true⟩]) rfl (fun w1 hI1 => ((hI1.lessR 3 rfl rfl rfl (fun h => all_out h hAi)).part2 3 rfl rfl 49).part2 5 rfl rfl 49) ?_
        refine n_loop (σ := Nat) (fun k => [(0, .ptr 0 0), (3, .lit true), (6, .int .i64 (i : Nat)), (7, .int .i64 (k : Nat))]) (fun k => [⟨69, [.raw (.slice (some ⟨g, 0, none⟩) D.length dgc), .raw (.slice kno K.length knc)], true⟩, ⟨100, [.res (rowRes 100 3 (some ⟨g, 0, none⟩) D.length dgc (D.flatMap De.c))], true⟩, ⟨103, [.res (rowRes 103 3 kno K.length knc (K.flatMap Kn.c))], true⟩, ⟨49, [.res (allRes (A.set i Res.none))], true⟩, ⟨47, [.res (allRes (K.map Kn.res))], true⟩, ⟨49, [.res (vRow e.l.1 e.L.length e.l.2 (vws (mksD i k) ++ (vws e.L).drop (k * 7)))], true⟩, ⟨49, [.res (vRow e.w.1 e.L.length e.w.2 (vws e.L))], true⟩]) (fun k => k ≤ e.L.length) (fun k => e.L.length - k) 0 mixed (by omega) (fun _ _ => rfl) rfl (by (repeat (first | exact trivial | refine ⟨⟨rfl, rfl⟩, ?_⟩))) (fun _ _ => ⟨by (repeat (first | exact trivial | refine ⟨⟨_, rfl⟩, ?_⟩)), by (repeat (first | exact trivial | refine ⟨⟨_, rfl⟩, ?_⟩))⟩) fun k hk => ?_
        (refine gs ?_)
        (repeat ((first | refine n_must rfl ?_ | refine n_chk (drawF_ok (by decide +kernel)) ?_ | refine n_same rfl ?_ | ((first | refine n_must ?_ ?_ | refine n_brT ?_ ?_); (focus (first | (simp [hil]; done) | (simp [hil]; omega) | (simp only [hil]; simp; done)))) | (refine n_brF ?_ ?_; (focus (first | (simp [hil]; done) | (simp [hil]; omega) | (simp only [hil]; simp; done)))) | refine n_must (by (with_reducible refine and_shape ?_) <;> kernel_rfl) ?_); (refine gs ?_)))
        (refine n_ldA (.raw (.slice e.l.1 e.L.length e.l.2)) rfl (by first | exact trivial | rfl) rfl (fun _ w1 _ hI1 => load_cell aggVws9 (row_at de_len (hI1.res 1 rfl rfl) hx (j := 0) (by omega) rfl (by simp [add_add]))) ?_; (refine gs ?_))
        by_cases hkn : k < e.L.length
        · as_aux_lemma =>
          have ek : IntKind.i64.wrap ((k : Int) + 1) = ((k + 1 : Nat) : Int) := by rw [w64 (by omega) (by omega)]; simp
          obtain ⟨⟨lo, lc⟩, ew_, L⟩ := e
          dsimp only at hkn hls hsl ⊢
          obtain ⟨gl, rfl⟩ := hls (by omega)
          (repeat ((first | refine n_must rfl ?_ | refine n_chk (drawF_ok (by decide +kernel)) ?_ | refine n_same rfl ?_ | ((first | refine n_must ?_ ?_ | refine n_brT ?_ ?_); (focus (first | (simp [hkn, hil]; done) | (simp [hkn, hil]; omega) | (simp only [hkn, hil]; simp; done)))) | (refine n_brF ?_ ?_; (focus (first | (simp [hkn, hil]; done) | (simp [hkn, hil]; omega) | (simp only [hkn, hil]; simp; done)))) | refine n_must (by (with_reducible refine and_shape ?_) <;> kernel_rfl) ?_); (refine gs ?_)))
          (refine n_ldA (.raw (.slice (some ⟨gl, 0, none⟩) L.length lc)) rfl (by first | exact trivial | rfl) rfl (fun _ w1 _ hI1 => load_cell aggVws9 (row_at de_len (hI1.res 1 rfl rfl) hx (j := 0) (by omega) rfl (by simp [add_add]))) ?_; (refine gs ?_))
          (repeat ((first | refine n_must rfl ?_ | refine n_chk (drawF_ok (by decide +kernel)) ?_ | refine n_same rfl ?_ | ((first | refine n_must ?_ ?_ | refine n_brT ?_ ?_); (focus (first | (simp [hkn]; done) | (simp [hkn]; omega) | (simp only [hkn]; simp; done)))) | (refine n_brF ?_ ?_; (focus (first | (simp [hkn]; done) | (simp [hkn]; omega) | (simp only [hkn]; simp; done)))) | refine n_must (by (with_reducible refine and_shape ?_) <;> kernel_rfl) ?_); (refine gs ?_)))
          refine n_storeRow (g := gl) (off := k * 7) (k := 7) (rv := .agg [.str { data := #[] }, .int .i64 (k : Nat), .int .i64 0, .int .i64 (IntKind.i64.wrap (-1000 - (i : Int))), .int .i64 0, .int .i64 0, .int .i64 0]) (v := (mkD i k).val) 5 (vws (mksD i (k + 1)) ++ (vws L).drop ((k + 1) * 7)) rfl rfl rfl ((show _ = (⟨gl, 0, none⟩ : Addr).add (k * 7) from rfl).trans (by rw [add_mk])) rfl (by rw [ew]; rfl) sizeView rfl rfl rfl (by rw [List.length_append, vws_len, mksD_len, List.length_drop, hsl]; omega) mixD ?_
          (refine gs ?_)
          refine gw ?_
          exact n_again ⟨k + 1, by omega, by omega, (by (repeat (first | exact trivial | refine ⟨⟨rfl, rfl⟩, ?_⟩ | refine ⟨⟨rfl, congrArg (SV.int .i64) ek⟩, ?_⟩))), ⟨_, rfl⟩⟩
        · obtain rfl : k = e.L.length := by omega
          rw [List.drop_of_length_le (by omega), List.append_nil]
          (repeat ((first | refine n_must rfl ?_ | refine n_chk (drawF_ok (by decide +kernel)) ?_ | refine n_same rfl ?_ | ((first | refine n_must ?_ ?_ | refine n_brT ?_ ?_); (focus (first | (simp [hkn]; done) | (simp [hkn]; omega) | (simp only [hkn]; simp; done)))) | (refine n_brF ?_ ?_; (focus (first | (simp [hkn]; done) | (simp [hkn]; omega) | (simp only [hkn]; simp; done)))) | refine n_must (by (with_reducible refine and_shape ?_) <;> kernel_rfl) ?_); (refine gs ?_)))
          refine n_exit rfl ?_
          (refine gs ?_)
          refine gw ?_
          refine n_againM fun ids' w' hp hI' => ⟨(i + 1, (A.set i Res.none).set i (e.mk' i)), ⟨by dsimp only; omega, fun j e2 he => ?_⟩, by dsimp only; omega, (by (repeat (first | exact trivial | refine ⟨⟨rfl, rfl⟩, ?_⟩ | refine ⟨⟨rfl, congrArg (SV.int .i64) ei⟩, ?_⟩))), [⟨49, [.res Res.none], true⟩, ⟨49, [.res Res.none], true⟩], (hI'.absorb 5 6 (by decide) rfl rfl rfl rfl rfl rfl).join 3 5 (by decide) rfl rfl rfl rfl rfl rfl (fun h => all_in h (by rw [List.getElem?_set_self hAl]))⟩
          dsimp only
          by_cases hji : j = i
          · subst hji
            rw [hx] at he; simp at he; subst he
            rw [List.getElem?_set_self (by simpa using hAl), if_pos (by omega)]
          · rw [List.getElem?_set_ne (Ne.symm hji), List.getElem?_set_ne (Ne.symm hji), hA j e2 he]
            by_cases h : j < i
            · rw [if_pos h, if_pos (by omega)]
            · rw [if_neg h, if_neg (by omega)]
      · obtain rfl : i = D.length := by omega
        have hAD : ∀ (j : Nat) (e : De), D[j]? = some e → A[j]? = some (e.mk' j) := fun j e he => by rw [hA j e he, if_pos (List.getElem?_eq_some_iff.1 he).1]
        clear hA
        (repeat ((first | refine n_must rfl ?_ | refine n_chk (drawF_ok (by decide +kernel)) ?_ | refine n_same rfl ?_ | ((first | refine n_must ?_ ?_ | refine n_brT ?_ ?_); (focus (first | (simp [hil]; done) | (simp [hil]; omega) | (simp only [hil]; simp; done)))) | (refine n_brF ?_ ?_; (focus (first | (simp [hil]; done) | (simp [hil]; omega) | (simp only [hil]; simp; done)))) | refine n_must (by (with_reducible refine and_shape ?_) <;> kernel_rfl) ?_); (refine gs ?_)))
        refine n_exitM rfl ?_
        as_aux_lemma =>
        generalize hAA : A = AD at hAD ⊢
        clear hAA
        (refine gs ?_)
        refine gw ?_
        refine n_loopM (σ := Nat × List Res) (fun t => [(0, .ptr 0 0), (3, .lit true), (8, .int .i64 (t.1 : Nat))]) (fun t => [⟨69, [.raw (.slice dgo D.length dgc), .raw (.slice kno K.length knc)], true⟩, ⟨100, [.res (rowRes 100 3 dgo D.length dgc (D.flatMap De.c))], true⟩, ⟨103, [.res (rowRes 103 3 kno K.length knc (K.flatMap Kn.c))], true⟩, ⟨49, [.res (allRes (AD))], true⟩, ⟨47, [.res (allRes (t.2))], true⟩]) (fun t => t.1 ≤ K.length ∧ ∀ (j : Nat) (e : Kn), K[j]? = some e → t.2[j]? = some (if j < t.1 then e.mk' j else e.res)) (fun t => K.length - t.1) (0, K.map Kn.res) mixed ⟨by dsimp only; omega, fun j e he => by rw [if_neg (by dsimp only; omega), List.getElem?_map, he]; rfl⟩ (fun _ _ => rfl) (fun _ h => h) rfl (by (repeat (first | exact trivial | refine ⟨⟨rfl, rfl⟩, ?_⟩))) (fun _ _ => ⟨by (repeat (first | exact trivial | refine ⟨⟨_, rfl⟩, ?_⟩)), by (repeat (first | exact trivial | refine ⟨⟨_, rfl⟩, ?_⟩))⟩) fun t ht => ?_
        obtain ⟨i, A⟩ := t
        obtain ⟨hi, hA⟩ := ht
        dsimp only at hi hA ⊢
        (refine gs ?_)
        refine gw ?_
        by_cases hil : i < K.length
        · as_aux_lemma =>
          have ei : IntKind.i64.wrap ((i : Int) + 1) = ((i + 1 : Nat) : Int) := by rw [w64 (by omega) (by omega)]; simp
          have ew : IntKind.i64.wrap (-1000 - (i : Int)) = -1000 - (i : Int) := w64 (by omega) (by omega)
          have hx : K[i]? = some K[i] := List.getElem?_eq_getElem _
          have hb := hks _ (List.getElem_mem hil)
          have hls := hlK i _ hx
          generalize K[i] = e at hx hb hls
          obtain ⟨g, rfl⟩ := hgK (by omega)
          have hAi := hA i e hx
          rw [if_neg (by omega)] at hAi
          have hAl := (List.getElem?_eq_some_iff.1 hAi).1
          have hsl : (rts e.L).length = e.L.length * 2 := rts_len _
          (repeat ((first | refine n_must rfl ?_ | refine n_chk (drawF_ok (by decide +kernel)) ?_ | refine n_same rfl ?_ | ((first | refine n_must ?_ ?_ | refine n_brT ?_ ?_); (focus (first | (simp [hil]; done) | (simp [hil]; omega) | (simp only [hil]; simp; done)))) | (refine n_brF ?_ ?_; (focus (first | (simp [hil]; done) | (simp [hil]; omega) | (simp only [hil]; simp; done)))) | refine n_must (by (with_reducible refine and_shape ?_) <;> kernel_rfl) ?_); (refine gs ?_)))
          refine n_loopX [0, 0] ([⟨69, [.raw (.slice dgo D.length dgc), .raw (.slice (some ⟨g, 0, none⟩) K.length knc)], true⟩, ⟨100, [.res (rowRes 100 3 dgo D.length dgc (D.flatMap De.c))], true⟩, ⟨103, [.res (rowRes 103 3 (some ⟨g, 0, none⟩) K.length knc (K.flatMap Kn.c))], true⟩, ⟨49, [.res (allRes (AD))], true⟩, ⟨47, [.res (allRes (A.set i Res.none))], true⟩, ⟨47, [.res (rRow e.l.1 e.L.length e.l.2 (rts (mksK i 0) ++ (rts e.L).drop (0 * 2)))], true⟩, ⟨47, [.res (rRow e.w.1 e.L.length e.w.2 (rts e.L))], true⟩]) rfl (fun w1 hI1 => ((hI1.lessR 4 rfl rfl rfl (fun h => all_out h hAi)).part2 4 rfl rfl 47).part2 5 rfl rfl 47) ?_
          refine n_loop (σ := Nat) (fun k => [(0, .ptr 0 0), (3, .lit true), (8, .int .i64 (i : Nat)), (9, .int .i64 (k : Nat))]) (fun k => [⟨69, [.raw (.slice dgo D.length dgc), .raw (.slice (some ⟨g, 0, none⟩) K.length knc)], true⟩, ⟨100, [.res (rowRes 100 3 dgo D.length dgc (D.flatMap De.c))], true⟩, ⟨103, [.res (rowRes 103 3 (some ⟨g, 0, none⟩) K.length knc (K.flatMap Kn.c))], true⟩, ⟨49, [.res (allRes (AD))], true⟩, ⟨47, [.res (allRes (A.set i Res.none))], true⟩, ⟨47, [.res (rRow e.l.1 e.L.length e.l.2 (rts (mksK i k) ++ (rts e.L).drop (k * 2)))], true⟩, ⟨47, [.res (rRow e.w.1 e.L.length e.w.2 (rts e.L))], true⟩]) (fun k => k ≤ e.L.length) (fun k => e.L.length - k) 0 mixed (by omega) (fun _ _ => rfl) rfl (by (repeat (first | exact trivial | refine ⟨⟨rfl, rfl⟩, ?_⟩))) (fun _ _ => ⟨by (repeat (first | exact trivial | refine ⟨⟨_, rfl⟩, ?_⟩)), by (repeat (first | exact trivial | refine ⟨⟨_, rfl⟩, ?_⟩))⟩) fun k hk => ?_
          (refine gs ?_)
          (repeat ((first | refine n_must rfl ?_ | refine n_chk (drawF_ok (by decide +kernel)) ?_ | refine n_same rfl ?_ | ((first | refine n_must ?_ ?_ | refine n_brT ?_ ?_); (focus (first | (simp [hil]; done) | (simp [hil]; omega) | (simp only [hil]; simp; done)))) | (refine n_brF ?_ ?_; (focus (first | (simp [hil]; done) | (simp [hil]; omega) | (simp only [hil]; simp; done)))) | refine n_must (by (with_reducible refine and_shape ?_) <;> kernel_rfl) ?_); (refine gs ?_)))
          (refine n_ldA (.raw (.slice e.l.1 e.L.length e.l.2)) rfl (by first | exact trivial | rfl) rfl (fun _ w1 _ hI1 => load_cell aggRts9 (row_at kn_len (hI1.res 2 rfl rfl) hx (j := 0) (by omega) rfl (by simp [add_add]))) ?_; (refine gs ?_))
          by_cases hkn : k < e.L.length
          · as_aux_lemma =>
            have ek : IntKind.i64.wrap ((k : Int) + 1) = ((k + 1 : Nat) : Int) := by rw [w64 (by omega) (by omega)]; simp
            obtain ⟨⟨lo, lc⟩, ew_, L⟩ := e
            dsimp only at hkn hls hsl ⊢
            obtain ⟨gl, rfl⟩ := hls (by omega)
            (repeat ((first | refine n_must rfl ?_ | refine n_chk (drawF_ok (by decide +kernel)) ?_ | refine n_same rfl ?_ | ((first | refine n_must ?_ ?_ | refine n_brT ?_ ?_); (focus (first | (simp [hkn, hil]; done) | (simp [hkn, hil]; omega) | (simp only [hkn, hil]; simp; done)))) | (refine n_brF ?_ ?_; (focus (first | (simp [hkn, hil]; done) | (simp [hkn, hil]; omega) | (simp only [hkn, hil]; simp; done)))) | refine n_must (by (with_reducible refine and_shape ?_) <;> kernel_rfl) ?_); (refine gs ?_)))
            (refine n_ldA (.raw (.slice (some ⟨gl, 0, none⟩) L.length lc)) rfl (by first | exact trivial | rfl) rfl (fun _ w1 _ hI1 => load_cell aggRts9 (row_at kn_len (hI1.res 2 rfl rfl) hx (j := 0) (by omega) rfl (by simp [add_add]))) ?_; (refine gs ?_))
            (repeat ((first | refine n_must rfl ?_ | refine n_chk (drawF_ok (by decide +kernel)) ?_ | refine n_same rfl ?_ | ((first | refine n_must ?_ ?_ | refine n_brT ?_ ?_); (focus (first | (simp [hkn]; done) | (simp [hkn]; omega) | (simp only [hkn]; simp; done)))) | (refine n_brF ?_ ?_; (focus (first | (simp [hkn]; done) | (simp [hkn]; omega) | (simp only [hkn]; simp; done)))) | refine n_must (by (with_reducible refine and_shape ?_) <;> kernel_rfl) ?_); (refine gs ?_)))
            refine n_storeRow (g := gl) (off := k * 2) (k := 2) (rv := .agg [.int .i64 (IntKind.i64.wrap (-1000 - (i : Int))), .int .i64 (k : Nat)]) (v := rtA (mkK i k)) 5 (rts (mksK i (k + 1)) ++ (rts L).drop ((k + 1) * 2)) rfl rfl rfl ((show _ = (⟨gl, 0, none⟩ : Addr).add (k * 2) from rfl).trans (by rw [add_mk])) rfl (by rw [ew]; rfl) sizeRt rfl rfl rfl (by rw [List.length_append, rts_len, mksK_len, List.length_drop, hsl]; omega) mixK ?_
            (refine gs ?_)
            refine gw ?_
            exact n_again ⟨k + 1, by omega, by omega, (by (repeat (first | exact trivial | refine ⟨⟨rfl, rfl⟩, ?_⟩ | refine ⟨⟨rfl, congrArg (SV.int .i64) ek⟩, ?_⟩))), ⟨_, rfl⟩⟩
          · obtain rfl : k = e.L.length := by omega
            rw [List.drop_of_length_le (by omega), List.append_nil]
            (repeat ((first | refine n_must rfl ?_ | refine n_chk (drawF_ok (by decide +kernel)) ?_ | refine n_same rfl ?_ | ((first | refine n_must ?_ ?_ | refine n_brT ?_ ?_); (focus (first | (simp [hkn]; done) | (simp [hkn]; omega) | (simp only [hkn]; simp; done)))) | (refine n_brF ?_ ?_; (focus (first | (simp [hkn]; done) | (simp [hkn]; omega) | (simp only [hkn]; simp; done)))) | refine n_must (by (with_reducible refine and_shape ?_) <;> kernel_rfl) ?_); (refine gs ?_)))
            refine n_exit rfl ?_
            (refine gs ?_)
            refine gw ?_
            refine n_againM fun ids' w' hp hI' => ⟨(i + 1, (A.set i Res.none).set i (e.mk' i)), ⟨by dsimp only; omega, fun j e2 he => ?_⟩, by dsimp only; omega, (by (repeat (first | exact trivial | refine ⟨⟨rfl, rfl⟩, ?_⟩ | refine ⟨⟨rfl, congrArg (SV.int .i64) ei⟩, ?_⟩))), [⟨47, [.res Res.none], true⟩, ⟨47, [.res Res.none], true⟩], (hI'.absorb 5 6 (by decide) rfl rfl rfl rfl rfl rfl).join 4 5 (by decide) rfl rfl rfl rfl rfl rfl (fun h => all_in h (by rw [List.getElem?_set_self hAl]))⟩
            dsimp only
            by_cases hji : j = i
            · subst hji
              rw [hx] at he; simp at he; subst he
              rw [List.getElem?_set_self (by simpa using hAl), if_pos (by omega)]
            · rw [List.getElem?_set_ne (Ne.symm hji), List.getElem?_set_ne (Ne.symm hji), hA j e2 he]
              by_cases h : j < i
              · rw [if_pos h, if_pos (by omega)]
              · rw [if_neg h, if_neg (by omega)]
        · obtain rfl : i = K.length := by omega
          have hAK : ∀ (j : Nat) (e : Kn), K[j]? = some e → A[j]? = some (e.mk' j) := fun j e he => by rw [hA j e he, if_pos (List.getElem?_eq_some_iff.1 he).1]
          clear hA
          (repeat ((first | refine n_must rfl ?_ | refine n_chk (drawF_ok (by decide +kernel)) ?_ | refine n_same rfl ?_ | ((first | refine n_must ?_ ?_ | refine n_brT ?_ ?_); (focus (first | (simp [hil]; done) | (simp [hil]; omega) | (simp only [hil]; simp; done)))) | (refine n_brF ?_ ?_; (focus (first | (simp [hil]; done) | (simp [hil]; omega) | (simp only [hil]; simp; done)))) | refine n_must (by (with_reducible refine and_shape ?_) <;> kernel_rfl) ?_); (refine gs ?_)))
          refine n_exitM rfl ?_
          as_aux_lemma =>
          generalize hAA : A = AK at hAK ⊢
          clear hAA
          (refine gs ?_)
          refine gw ?_
          refine n_loopM (σ := Nat × List (De × SlT) × List Res) (fun t => [(0, .ptr 0 0), (3, .lit true), (10, .int .i64 (t.1 : Nat))]) (fun t => [⟨69, [.raw (.slice dgo D.length dgc), .raw (.slice kno K.length knc)], true⟩, ⟨100, [.res (rowRes 100 3 dgo D.length dgc (t.2.1.flatMap dC))], true⟩, ⟨103, [.res (rowRes 103 3 kno K.length knc (K.flatMap Kn.c))], true⟩, ⟨49, [.res (allRes (t.2.2))], true⟩, ⟨47, [.res (allRes (AK))], true⟩]) (fun t => t.1 ≤ D.length ∧ ∀ (j : Nat) (e : De), D[j]? = some e → if j < t.1 then GrD j e t.2.1[j]? t.2.2[j]? else t.2.1[j]? = some (e, ((none, 0, 0) : SlT)) ∧ t.2.2[j]? = some (e.mk' j)) (fun t => D.length - t.1) (0, D.map fun x => (x, ((none, 0, 0) : SlT)), AD) mixed ⟨by dsimp only; omega, fun j e he => by rw [if_neg (by dsimp only; omega)]; exact ⟨by rw [List.getElem?_map, he]; rfl, hAD j e he⟩⟩ (fun _ _ => rfl) (fun _ h => by
            have e0 : (D.map fun x => (x, ((none, 0, 0) : SlT))).flatMap dC = D.flatMap De.c := flat_c0 (fun _ => rfl) _
            dsimp only
            rw [e0]
            exact h) rfl (by (repeat (first | exact trivial | refine ⟨⟨rfl, rfl⟩, ?_⟩))) (fun _ _ => ⟨by (repeat (first | exact trivial | refine ⟨⟨_, rfl⟩, ?_⟩)), by (repeat (first | exact trivial | refine ⟨⟨_, rfl⟩, ?_⟩))⟩) fun t ht => ?_
          obtain ⟨i, C, A⟩ := t
          obtain ⟨hi, hA⟩ := ht
          dsimp only at hi hA ⊢
          (refine gs ?_)
          refine gw ?_
          by_cases hil : i < D.length
          · as_aux_lemma =>
            have ei : IntKind.i64.wrap ((i : Int) + 1) = ((i + 1 : Nat) : Int) := by rw [w64 (by omega) (by omega)]; simp
            have ew : IntKind.i64.wrap (-1000 - (i : Int)) = -1000 - (i : Int) := w64 (by omega) (by omega)
            have hx : D[i]? = some D[i] := List.getElem?_eq_getElem _
            have hb := hds _ (List.getElem_mem hil)
            have hls := hlD i _ hx
            generalize D[i] = e at hx hb hls
            obtain ⟨g, rfl⟩ := hgD (by omega)
            have hAi0 := hA i e hx
            rw [if_neg (by omega)] at hAi0
            obtain ⟨hCi, hAi⟩ := hAi0
            have hAl := (List.getElem?_eq_some_iff.1 hAi).1
            have hCl := (List.getElem?_eq_some_iff.1 hCi).1
            have hset : ∀ m : SlT, (C.set i (e, m))[i]? = some (e, m) := fun m => List.getElem?_set_self hCl
            have en : IntKind.i64.wrap ((e.L.length : Int) + 100) = ((e.L.length + 100 : Nat) : Int) := by rw [w64 (by omega) (by omega)]; simp
            (repeat ((first | refine n_must rfl ?_ | refine n_chk (drawF_ok (by decide +kernel)) ?_ | refine n_same rfl ?_ | ((first | refine n_must ?_ ?_ | refine n_brT ?_ ?_); (focus (first | (simp [hil]; done) | (simp [hil]; omega) | (simp only [hil]; simp; done)))) | (refine n_brF ?_ ?_; (focus (first | (simp [hil]; done) | (simp [hil]; omega) | (simp only [hil]; simp; done)))) | refine n_must (by (with_reducible refine and_shape ?_) <;> kernel_rfl) ?_); (refine gs ?_)))
            (refine n_ldA (.raw (.slice e.l.1 e.L.length e.l.2)) rfl (by first | exact trivial | rfl) rfl (fun _ w1 _ hI1 => load_cell aggVws9 (row_at dC_len (hI1.res 1 rfl rfl) hCi (j := 0) (by omega) rfl (by simp [add_add]))) ?_; (refine gs ?_))
            refine gw ?_
            refine n_storeRow (g := g) (off := i * 3 + 2) (k := 1) (rv := .raw (.slice e.l.1 e.L.length e.l.2)) (v := .slice e.l.1 e.L.length e.l.2) 1 ((C.set i (e, ((e.l.1, e.L.length, e.l.2) : SlT))).flatMap dC) rfl rfl rfl (by rw [add_add, add_mk]; rfl) rfl rfl sizeVws9 rfl rfl rfl (by rw [flat_len dC_len]; omega) (set_third (F := dC) (G := fun x : De => [.slice x.l.1 x.L.length x.l.2, .slice x.w.1 x.L.length x.w.2]) (fun _ _ => rfl) (fun _ => rfl) (m' := (e.l.1, e.L.length, e.l.2)) hCi) ?_
            (refine gs ?_)
            refine gw ?_
            (refine n_ldA (.raw (.slice e.l.1 e.L.length e.l.2)) rfl (by first | exact trivial | rfl) rfl (fun _ w1 _ hI1 => load_cell aggVws9 (row_at dC_len (hI1.res 1 rfl rfl) (hset _) (j := 0) (by omega) rfl (by simp [add_add]))) ?_; (refine gs ?_))
            refine gw ?_
            refine n_loopX [0, 0] ([⟨69, [.raw (.slice (some ⟨g, 0, none⟩) D.length dgc), .raw (.slice kno K.length knc)], true⟩, ⟨100, [.res (rowRes 100 3 (some ⟨g, 0, none⟩) D.length dgc ((C.set i (e, ((e.l.1, e.L.length, e.l.2) : SlT))).flatMap dC))], true⟩, ⟨103, [.res (rowRes 103 3 kno K.length knc (K.flatMap Kn.c))], true⟩, ⟨49, [.res (allRes (A.set i Res.none))], true⟩, ⟨47, [.res (allRes (AK))], true⟩, ⟨49, [.res (growRes 49 7 (e.l.1) (e.L.length) (e.l.2) (vws (mksD i (e.L.length))) ([]))], true⟩, ⟨49, [.res (vRow e.w.1 e.L.length e.w.2 (vws e.L))], true⟩]) rfl (fun w1 hI1 => (((hI1.lessR 3 rfl rfl rfl (fun h => all_out h hAi)).part2 3 rfl rfl 49).part2 5 rfl rfl 49).lessR 5 rfl rfl rfl (fun h => ⟨⟨fun x hx => (by cases hx), h, fun x hx => (by simp [rdsRes] at hx)⟩, fun x hx => by simpa [Res.both, rdsRes] using hx⟩)) ?_
            refine n_loop (σ := Nat × (Option Addr × Nat) × List (Option Addr × List Value)) (fun t => [(0, .ptr 0 0), (3, .lit true), (10, .int .i64 (i : Nat)), (11, (.raw (.pointer (some ((⟨g, 0, none⟩ : Addr).add (i * 3)))))), (12, .int .i64 (t.1 : Nat))]) (fun t => [⟨69, [.raw (.slice (some ⟨g, 0, none⟩) D.length dgc), .raw (.slice kno K.length knc)], true⟩, ⟨100, [.res (rowRes 100 3 (some ⟨g, 0, none⟩) D.length dgc ((C.set i (e, ((t.2.1.1, t.1, t.2.1.2) : SlT))).flatMap dC))], true⟩, ⟨103, [.res (rowRes 103 3 kno K.length knc (K.flatMap Kn.c))], true⟩, ⟨49, [.res (allRes (A.set i Res.none))], true⟩, ⟨47, [.res (allRes (AK))], true⟩, ⟨49, [.res (growRes 49 7 (t.2.1.1) (t.1) (t.2.1.2) (vws (mksD i (t.1))) (t.2.2))], true⟩, ⟨49, [.res (vRow e.w.1 e.L.length e.w.2 (vws e.L))], true⟩]) (fun t => e.L.length ≤ t.1 ∧ t.1 ≤ e.L.length + 100 ∧ Reads ((t.2.1.1, vws (mksD i t.1)) :: t.2.2) e.l.1 (vws (mksD i e.L.length))) (fun t => e.L.length + 100 - t.1) (e.L.length, (e.l.1, e.l.2), []) mixed ⟨by dsimp only; omega, by dsimp only; omega, _, List.mem_cons_self .., rfl, List.prefix_refl _⟩ (fun _ _ => rfl) rfl (by (repeat (first | exact trivial | refine ⟨⟨rfl, rfl⟩, ?_⟩))) (fun _ _ => ⟨by (repeat (first | exact trivial | refine ⟨⟨_, rfl⟩, ?_⟩)), by (repeat (first | exact trivial | refine ⟨⟨_, rfl⟩, ?_⟩))⟩) fun t ht => ?_
            obtain ⟨k, ⟨o2, c2⟩, G⟩ := t
            obtain ⟨hk1, hk2, hG⟩ := ht
            dsimp only at hk1 hk2 hG ⊢
            (refine gs ?_)
            refine gw ?_
            (refine n_ldA (.raw (.slice e.w.1 e.L.length e.w.2)) rfl (by first | exact trivial | rfl) rfl (fun _ w1 _ hI1 => load_cell aggVws9 (row_at dC_len (hI1.res 1 rfl rfl) (hset _) (j := 1) (by omega) rfl (by simp [add_add]))) ?_; (refine gs ?_))
            by_cases hkn : (k : Int) < ((e.L.length + 100 : Nat) : Int)
            · as_aux_lemma =>
              have ek : IntKind.i64.wrap ((k : Int) + 1) = ((k + 1 : Nat) : Int) := by rw [w64 (by omega) (by omega)]; simp
              (repeat ((first | refine n_must rfl ?_ | refine n_chk (drawF_ok (by decide +kernel)) ?_ | refine n_same rfl ?_ | ((first | refine n_must ?_ ?_ | refine n_brT ?_ ?_); (focus (first | (simp [en, hkn]; done) | (simp [en, hkn]; omega) | (simp only [en, hkn]; simp; done)))) | (refine n_brF ?_ ?_; (focus (first | (simp [en, hkn]; done) | (simp [en, hkn]; omega) | (simp only [en, hkn]; simp; done)))) | refine n_must (by (with_reducible refine and_shape ?_) <;> kernel_rfl) ?_); (refine gs ?_)))
              (refine n_ldA (.raw (.slice o2 k c2)) rfl (by first | exact trivial | rfl) rfl (fun _ w1 _ hI1 => load_cell aggVws9 (row_at dC_len (hI1.res 1 rfl rfl) (hset (o2, k, c2)) (j := 2) (by omega) rfl (by simp [add_add]))) ?_; (refine gs ?_))
              refine gw ?_
              refine n_build1 rfl rfl elemVw rfl rfl rfl rfl rfl rfl rfl rfl rfl ?_
              (refine gs ?_)
              refine gw ?_
              refine n_appendK (nv := [.string { data := #[] }, .int .i64 (k : Nat), .int .i64 0, .int .i64 (IntKind.i64.wrap (-1000 - (i : Int))), .int .i64 0, .int .i64 0, .int .i64 0]) 5 rfl rfl elemVw hittD hptD.1 hptD.2.1 hptD.2.2 rfl (by omega) rfl rfl rfl rfl rfl rfl (by omega) (by simp [Value.oneCell']) (by omega) (by omega) (show _ = vws (mksD i (k + 1)) by rw [ew, mksD_next, ← vws_add]; rfl) fun g2 c3 G2 hG2 => ?_
              (refine gs ?_)
              refine gw ?_
              refine n_storeRow (g := g) (off := i * 3 + 2) (k := 1) (rv := .raw (.slice (some ⟨g2, 0, none⟩) (k + 1) c3)) (v := .slice (some ⟨g2, 0, none⟩) (k + 1) c3) 1 ((C.set i (e, ((some ⟨g2, 0, none⟩, k + 1, c3) : SlT))).flatMap dC) rfl rfl rfl (by rw [add_add, add_mk]; rfl) rfl rfl sizeVws9 rfl rfl rfl (by rw [flat_len dC_len, List.length_set]; omega) ((set_third (F := dC) (G := fun x : De => [.slice x.l.1 x.L.length x.l.2, .slice x.w.1 x.L.length x.w.2]) (fun _ _ => rfl) (fun _ => rfl) (m' := (some ⟨g2, 0, none⟩, k + 1, c3)) (hset (o2, k, c2))).trans (by rw [List.set_set])) ?_
              (refine gs ?_)
              refine gw ?_
              refine n_again ⟨(k + 1, (some ⟨g2, 0, none⟩, c3), G2), ⟨by dsimp only; omega, by dsimp only; omega, ?_⟩, by dsimp only; omega, (by (repeat (first | exact trivial | refine ⟨⟨rfl, rfl⟩, ?_⟩ | refine ⟨⟨rfl, congrArg (SV.int .i64) ek⟩, ?_⟩))), ⟨_, rfl⟩⟩
              dsimp only
              obtain ⟨y, hy, e1, e2⟩ := hG
              rcases hG2 with ⟨rfl, rfl⟩ | rfl
              · rcases List.mem_cons.1 hy with rfl | hy
                · exact ⟨_, List.mem_cons_self .., e1, e2.trans (mksD_pre i (Nat.le_succ _))⟩
                · exact ⟨y, List.mem_cons_of_mem _ hy, e1, e2⟩
              · exact ⟨y, List.mem_cons_of_mem _ hy, e1, e2⟩
            · obtain rfl : k = e.L.length + 100 := by omega
              (repeat ((first | refine n_must rfl ?_ | refine n_chk (drawF_ok (by decide +kernel)) ?_ | refine n_same rfl ?_ | ((first | refine n_must ?_ ?_ | refine n_brT ?_ ?_); (focus (first | (simp [en, hkn]; done) | (simp [en, hkn]; omega) | (simp only [en, hkn]; simp; done)))) | (refine n_brF ?_ ?_; (focus (first | (simp [en, hkn]; done) | (simp [en, hkn]; omega) | (simp only [en, hkn]; simp; done)))) | refine n_must (by (with_reducible refine and_shape ?_) <;> kernel_rfl) ?_); (refine gs ?_)))
              refine n_exit rfl ?_
              (refine gs ?_)
              refine gw ?_
              refine n_againM fun ids' w' hp hI' => ⟨(i + 1, C.set i (e, ((o2, e.L.length + 100, c2) : SlT)), (A.set i Res.none).set i (rdsRes ((o2, vws (mksD i (e.L.length + 100))) :: G))), ⟨by dsimp only; omega, fun j e2 he => ?_⟩, by dsimp only; omega, (by (repeat (first | exact trivial | refine ⟨⟨rfl, rfl⟩, ?_⟩ | refine ⟨⟨rfl, congrArg (SV.int .i64) ei⟩, ?_⟩))), [⟨49, [.res Res.none], true⟩, ⟨49, [.res (vRow e.w.1 e.L.length e.w.2 (vws e.L))], true⟩], (hI'.lessR 5 rfl rfl rfl (fun h => grow_end h)).join 3 5 (by decide) rfl rfl rfl rfl rfl rfl (fun h => all_in h (by rw [List.getElem?_set_self hAl]))⟩
              dsimp only
              by_cases hji : j = i
              · subst hji
                rw [hx] at he; simp at he; subst he
                rw [if_pos (by omega), hset, List.getElem?_set_self (by simpa using hAl)]
                exact ⟨_, _, rfl, rfl, hG, ⟨_, List.mem_cons_self .., rfl, List.prefix_refl _⟩, by dsimp only; omega⟩
              · rw [List.getElem?_set_ne (Ne.symm hji), List.getElem?_set_ne (Ne.symm hji), List.getElem?_set_ne (Ne.symm hji)]
                have := hA j e2 he
                by_cases h : j < i
                · rw [if_pos h] at this; rw [if_pos (by omega)]; exact this
                · rw [if_neg h] at this; rw [if_neg (by omega)]; exact this
          · obtain rfl : i = D.length := by omega
            have hGD : ∀ (j : Nat) (e : De), D[j]? = some e → GrD j e C[j]? A[j]? := fun j e he => by have := hA j e he; rwa [if_pos (List.getElem?_eq_some_iff.1 he).1] at this
            clear hA
            (repeat ((first | refine n_must rfl ?_ | refine n_chk (drawF_ok (by decide +kernel)) ?_ | refine n_same rfl ?_ | ((first | refine n_must ?_ ?_ | refine n_brT ?_ ?_); (focus (first | (simp [hil]; done) | (simp [hil]; omega) | (simp only [hil]; simp; done)))) | (refine n_brF ?_ ?_; (focus (first | (simp [hil]; done) | (simp [hil]; omega) | (simp only [hil]; simp; done)))) | refine n_must (by (with_reducible refine and_shape ?_) <;> kernel_rfl) ?_); (refine gs ?_)))
            refine n_exitM rfl ?_
            as_aux_lemma =>
            clear hAD
            generalize hAA : A = BD at hGD ⊢
            generalize hCC : C = CD at hGD ⊢
            clear hAA hCC
            (refine gs ?_)
            refine gw ?_
            refine n_loopM (σ := Nat × List (Kn × SlT) × List Res) (fun t => [(0, .ptr 0 0), (3, .lit true), (13, .int .i64 (t.1 : Nat))]) (fun t => [⟨69, [.raw (.slice dgo D.length dgc), .raw (.slice kno K.length knc)], true⟩, ⟨100, [.res (rowRes 100 3 dgo D.length dgc (CD.flatMap dC))], true⟩, ⟨103, [.res (rowRes 103 3 kno K.length knc (t.2.1.flatMap kC))], true⟩, ⟨49, [.res (allRes (BD))], true⟩, ⟨47, [.res (allRes (t.2.2))], true⟩]) (fun t => t.1 ≤ K.length ∧ ∀ (j : Nat) (e : Kn), K[j]? = some e → if j < t.1 then GrK j e t.2.1[j]? t.2.2[j]? else t.2.1[j]? = some (e, ((none, 0, 0) : SlT)) ∧ t.2.2[j]? = some (e.mk' j)) (fun t => K.length - t.1) (0, K.map fun x => (x, ((none, 0, 0) : SlT)), AK) mixed ⟨by dsimp only; omega, fun j e he => by rw [if_neg (by dsimp only; omega)]; exact ⟨by rw [List.getElem?_map, he]; rfl, hAK j e he⟩⟩ (fun _ _ => rfl) (fun _ h => by
              have e0 : (K.map fun x => (x, ((none, 0, 0) : SlT))).flatMap kC = K.flatMap Kn.c := flat_c0 (fun _ => rfl) _
              dsimp only
              rw [e0]
              exact h) rfl (by (repeat (first | exact trivial | refine ⟨⟨rfl, rfl⟩, ?_⟩))) (fun _ _ => ⟨by (repeat (first | exact trivial | refine ⟨⟨_, rfl⟩, ?_⟩)), by (repeat (first | exact trivial | refine ⟨⟨_, rfl⟩, ?_⟩))⟩) fun t ht => ?_
            obtain ⟨i, C, A⟩ := t
            obtain ⟨hi, hA⟩ := ht
            dsimp only at hi hA ⊢
            (refine gs ?_)
            refine gw ?_
            by_cases hil : i < K.length
            · as_aux_lemma =>
              have ei : IntKind.i64.wrap ((i : Int) + 1) = ((i + 1 : Nat) : Int) := by rw [w64 (by omega) (by omega)]; simp
              have ew : IntKind.i64.wrap (-1000 - (i : Int)) = -1000 - (i : Int) := w64 (by omega) (by omega)
              have hx : K[i]? = some K[i] := List.getElem?_eq_getElem _
              have hb := hks _ (List.getElem_mem hil)
              have hls := hlK i _ hx
              generalize K[i] = e at hx hb hls
              obtain ⟨g, rfl⟩ := hgK (by omega)
              have hAi0 := hA i e hx
              rw [if_neg (by omega)] at hAi0
              obtain ⟨hCi, hAi⟩ := hAi0
              have hAl := (List.getElem?_eq_some_iff.1 hAi).1
              have hCl := (List.getElem?_eq_some_iff.1 hCi).1
              have hset : ∀ m : SlT, (C.set i (e, m))[i]? = some (e, m) := fun m => List.getElem?_set_self hCl
              have en : IntKind.i64.wrap ((e.L.length : Int) + 100) = ((e.L.length + 100 : Nat) : Int) := by rw [w64 (by omega) (by omega)]; simp
              (repeat ((first | refine n_must rfl ?_ | refine n_chk (drawF_ok (by decide +kernel)) ?_ | refine n_same rfl ?_ | ((first | refine n_must ?_ ?_ | refine n_brT ?_ ?_); (focus (first | (simp [hil]; done) | (simp [hil]; omega) | (simp only [hil]; simp; done)))) | (refine n_brF ?_ ?_; (focus (first | (simp [hil]; done) | (simp [hil]; omega) | (simp only [hil]; simp; done)))) | refine n_must (by (with_reducible refine and_shape ?_) <;> kernel_rfl) ?_); (refine gs ?_)))
              (refine n_ldA (.raw (.slice e.l.1 e.L.length e.l.2)) rfl (by first | exact trivial | rfl) rfl (fun _ w1 _ hI1 => load_cell aggRts9 (row_at kC_len (hI1.res 2 rfl rfl) hCi (j := 0) (by omega) rfl (by simp [add_add]))) ?_; (refine gs ?_))
              refine gw ?_
              refine n_storeRow (g := g) (off := i * 3 + 2) (k := 1) (rv := .raw (.slice e.l.1 e.L.length e.l.2)) (v := .slice e.l.1 e.L.length e.l.2) 2 ((C.set i (e, ((e.l.1, e.L.length, e.l.2) : SlT))).flatMap kC) rfl rfl rfl (by rw [add_add, add_mk]; rfl) rfl rfl sizeRts9 rfl rfl rfl (by rw [flat_len kC_len]; omega) (set_third (F := kC) (G := fun x : Kn => [.slice x.l.1 x.L.length x.l.2, .slice x.w.1 x.L.length x.w.2]) (fun _ _ => rfl) (fun _ => rfl) (m' := (e.l.1, e.L.length, e.l.2)) hCi) ?_
              (refine gs ?_)
              refine gw ?_
              (refine n_ldA (.raw (.slice e.l.1 e.L.length e.l.2)) rfl (by first | exact trivial | rfl) rfl (fun _ w1 _ hI1 => load_cell aggRts9 (row_at kC_len (hI1.res 2 rfl rfl) (hset _) (j := 0) (by omega) rfl (by simp [add_add]))) ?_; (refine gs ?_))
              refine gw ?_
              refine n_loopX [0, 0] ([⟨69, [.raw (.slice dgo D.length dgc), .raw (.slice (some ⟨g, 0, none⟩) K.length knc)], true⟩, ⟨100, [.res (rowRes 100 3 dgo D.length dgc (CD.flatMap dC))], true⟩, ⟨103, [.res (rowRes 103 3 (some ⟨g, 0, none⟩) K.length knc ((C.set i (e, ((e.l.1, e.L.length, e.l.2) : SlT))).flatMap kC))], true⟩, ⟨49, [.res (allRes (BD))], true⟩, ⟨47, [.res (allRes (A.set i Res.none))], true⟩, ⟨47, [.res (growRes 47 2 (e.l.1) (e.L.length) (e.l.2) (rts (mksK i (e.L.length))) ([]))], true⟩, ⟨47, [.res (rRow e.w.1 e.L.length e.w.2 (rts e.L))], true⟩]) rfl (fun w1 hI1 => (((hI1.lessR 4 rfl rfl rfl (fun h => all_out h hAi)).part2 4 rfl rfl 47).part2 5 rfl rfl 47).lessR 5 rfl rfl rfl (fun h => ⟨⟨fun x hx => (by cases hx), h, fun x hx => (by simp [rdsRes] at hx)⟩, fun x hx => by simpa [Res.both, rdsRes] using hx⟩)) ?_
              refine n_loop (σ := Nat × (Option Addr × Nat) × List (Option Addr × List Value)) (fun t => [(0, .ptr 0 0), (3, .lit true), (13, .int .i64 (i : Nat)), (14, (.raw (.pointer (some ((⟨g, 0, none⟩ : Addr).add (i * 3)))))), (15, .int .i64 (t.1 : Nat))]) (fun t => [⟨69, [.raw (.slice dgo D.length dgc), .raw (.slice (some ⟨g, 0, none⟩) K.length knc)], true⟩, ⟨100, [.res (rowRes 100 3 dgo D.length dgc (CD.flatMap dC))], true⟩, ⟨103, [.res (rowRes 103 3 (some ⟨g, 0, none⟩) K.length knc ((C.set i (e, ((t.2.1.1, t.1, t.2.1.2) : SlT))).flatMap kC))], true⟩, ⟨49, [.res (allRes (BD))], true⟩, ⟨47, [.res (allRes (A.set i Res.none))], true⟩, ⟨47, [.res (growRes 47 2 (t.2.1.1) (t.1) (t.2.1.2) (rts (mksK i (t.1))) (t.2.2))], true⟩, ⟨47, [.res (rRow e.w.1 e.L.length e.w.2 (rts e.L))], true⟩]) (fun t => e.L.length ≤ t.1 ∧ t.1 ≤ e.L.length + 100 ∧ Reads ((t.2.1.1, rts (mksK i t.1)) :: t.2.2) e.l.1 (rts (mksK i e.L.length))) (fun t => e.L.length + 100 - t.1) (e.L.length, (e.l.1, e.l.2), []) mixed ⟨by dsimp only; omega, by dsimp only; omega, _, List.mem_cons_self .., rfl, List.prefix_refl _⟩ (fun _ _ => rfl) rfl (by (repeat (first | exact trivial | refine ⟨⟨rfl, rfl⟩, ?_⟩))) (fun _ _ => ⟨by (repeat (first | exact trivial | refine ⟨⟨_, rfl⟩, ?_⟩)), by (repeat (first | exact trivial | refine ⟨⟨_, rfl⟩, ?_⟩))⟩) fun t ht => ?_
              obtain ⟨k, ⟨o2, c2⟩, G⟩ := t
              obtain ⟨hk1, hk2, hG⟩ := ht
              dsimp only at hk1 hk2 hG ⊢
              (refine gs ?_)
              refine gw ?_
              (refine n_ldA (.raw (.slice e.w.1 e.L.length e.w.2)) rfl (by first | exact trivial | rfl) rfl (fun _ w1 _ hI1 => load_cell aggRts9 (row_at kC_len (hI1.res 2 rfl rfl) (hset _) (j := 1) (by omega) rfl (by simp [add_add]))) ?_; (refine gs ?_))
              by_cases hkn : (k : Int) < ((e.L.length + 100 : Nat) : Int)
              · as_aux_lemma =>
                have ek : IntKind.i64.wrap ((k : Int) + 1) = ((k + 1 : Nat) : Int) := by rw [w64 (by omega) (by omega)]; simp
                (repeat ((first | refine n_must rfl ?_ | refine n_chk (drawF_ok (by decide +kernel)) ?_ | refine n_same rfl ?_ | ((first | refine n_must ?_ ?_ | refine n_brT ?_ ?_); (focus (first | (simp [en, hkn]; done) | (simp [en, hkn]; omega) | (simp only [en, hkn]; simp; done)))) | (refine n_brF ?_ ?_; (focus (first | (simp [en, hkn]; done) | (simp [en, hkn]; omega) | (simp only [en, hkn]; simp; done)))) | refine n_must (by (with_reducible refine and_shape ?_) <;> kernel_rfl) ?_); (refine gs ?_)))
                (refine n_ldA (.raw (.slice o2 k c2)) rfl (by first | exact trivial | rfl) rfl (fun _ w1 _ hI1 => load_cell aggRts9 (row_at kC_len (hI1.res 2 rfl rfl) (hset (o2, k, c2)) (j := 2) (by omega) rfl (by simp [add_add]))) ?_; (refine gs ?_))
                refine gw ?_
                refine n_build1 rfl rfl elemRt9 rfl rfl rfl rfl rfl rfl rfl rfl rfl ?_
                (refine gs ?_)
                refine gw ?_
                refine n_appendK (nv := [.int .i64 (IntKind.i64.wrap (-1000 - (i : Int))), .int .i64 (k : Nat)]) 5 rfl rfl elemRt9 hittK hptK.1 hptK.2.1 hptK.2.2 rfl (by omega) rfl rfl rfl rfl rfl rfl (by omega) (by simp [Value.oneCell']) (by omega) (by omega) (show _ = rts (mksK i (k + 1)) by rw [ew, mksK_next, ← rts_add]; rfl) fun g2 c3 G2 hG2 => ?_
                (refine gs ?_)
                refine gw ?_
                refine n_storeRow (g := g) (off := i * 3 + 2) (k := 1) (rv := .raw (.slice (some ⟨g2, 0, none⟩) (k + 1) c3)) (v := .slice (some ⟨g2, 0, none⟩) (k + 1) c3) 2 ((C.set i (e, ((some ⟨g2, 0, none⟩, k + 1, c3) : SlT))).flatMap kC) rfl rfl rfl (by rw [add_add, add_mk]; rfl) rfl rfl sizeRts9 rfl rfl rfl (by rw [flat_len kC_len, List.length_set]; omega) ((set_third (F := kC) (G := fun x : Kn => [.slice x.l.1 x.L.length x.l.2, .slice x.w.1 x.L.length x.w.2]) (fun _ _ => rfl) (fun _ => rfl) (m' := (some ⟨g2, 0, none⟩, k + 1, c3)) (hset (o2, k, c2))).trans (by rw [List.set_set])) ?_
                (refine gs ?_)
                refine gw ?_
                refine n_again ⟨(k + 1, (some ⟨g2, 0, none⟩, c3), G2), ⟨by dsimp only; omega, by dsimp only; omega, ?_⟩, by dsimp only; omega, (by (repeat (first | exact trivial | refine ⟨⟨rfl, rfl⟩, ?_⟩ | refine ⟨⟨rfl, congrArg (SV.int .i64) ek⟩, ?_⟩))), ⟨_, rfl⟩⟩
                dsimp only
                obtain ⟨y, hy, e1, e2⟩ := hG
                rcases hG2 with ⟨rfl, rfl⟩ | rfl
                · rcases List.mem_cons.1 hy with rfl | hy
                  · exact ⟨_, List.mem_cons_self .., e1, e2.trans (mksK_pre i (Nat.le_succ _))⟩
                  · exact ⟨y, List.mem_cons_of_mem _ hy, e1, e2⟩
                · exact ⟨y, List.mem_cons_of_mem _ hy, e1, e2⟩
              · obtain rfl : k = e.L.length + 100 := by omega
                (repeat ((first | refine n_must rfl ?_ | refine n_chk (drawF_ok (by decide +kernel)) ?_ | refine n_same rfl ?_ | ((first | refine n_must ?_ ?_ | refine n_brT ?_ ?_); (focus (first | (simp [en, hkn]; done) | (simp [en, hkn]; omega) | (simp only [en, hkn]; simp; done)))) | (refine n_brF ?_ ?_; (focus (first | (simp [en, hkn]; done) | (simp [en, hkn]; omega) | (simp only [en, hkn]; simp; done)))) | refine n_must (by (with_reducible refine and_shape ?_) <;> kernel_rfl) ?_); (refine gs ?_)))
                refine n_exit rfl ?_
                (refine gs ?_)
                refine gw ?_
                refine n_againM fun ids' w' hp hI' => ⟨(i + 1, C.set i (e, ((o2, e.L.length + 100, c2) : SlT)), (A.set i Res.none).set i (rdsRes ((o2, rts (mksK i (e.L.length + 100))) :: G))), ⟨by dsimp only; omega, fun j e2 he => ?_⟩, by dsimp only; omega, (by (repeat (first | exact trivial | refine ⟨⟨rfl, rfl⟩, ?_⟩ | refine ⟨⟨rfl, congrArg (SV.int .i64) ei⟩, ?_⟩))), [⟨47, [.res Res.none], true⟩, ⟨47, [.res (rRow e.w.1 e.L.length e.w.2 (rts e.L))], true⟩], (hI'.lessR 5 rfl rfl rfl (fun h => grow_end h)).join 4 5 (by decide) rfl rfl rfl rfl rfl rfl (fun h => all_in h (by rw [List.getElem?_set_self hAl]))⟩
                dsimp only
                by_cases hji : j = i
                · subst hji
                  rw [hx] at he; simp at he; subst he
                  rw [if_pos (by omega), hset, List.getElem?_set_self (by simpa using hAl)]
                  exact ⟨_, _, rfl, rfl, hG, ⟨_, List.mem_cons_self .., rfl, List.prefix_refl _⟩, by dsimp only; omega⟩
                · rw [List.getElem?_set_ne (Ne.symm hji), List.getElem?_set_ne (Ne.symm hji), List.getElem?_set_ne (Ne.symm hji)]
                  have := hA j e2 he
                  by_cases h : j < i
                  · rw [if_pos h] at this; rw [if_pos (by omega)]; exact this
                  · rw [if_neg h] at this; rw [if_neg (by omega)]; exact this
            · obtain rfl : i = K.length := by omega
              have hGK : ∀ (j : Nat) (e : Kn), K[j]? = some e → GrK j e C[j]? A[j]? := fun j e he => by have := hA j e he; rwa [if_pos (List.getElem?_eq_some_iff.1 he).1] at this
              clear hA
              (repeat ((first | refine n_must rfl ?_ | refine n_chk (drawF_ok (by decide +kernel)) ?_ | refine n_same rfl ?_ | ((first | refine n_must ?_ ?_ | refine n_brT ?_ ?_); (focus (first | (simp [hil]; done) | (simp [hil]; omega) | (simp only [hil]; simp; done)))) | (refine n_brF ?_ ?_; (focus (first | (simp [hil]; done) | (simp [hil]; omega) | (simp only [hil]; simp; done)))) | refine n_must (by (with_reducible refine and_shape ?_) <;> kernel_rfl) ?_); (refine gs ?_)))
              refine n_exitM rfl ?_
              as_aux_lemma =>
              clear hAK
              generalize hAA : A = BK at hGK ⊢
              generalize hCC : C = CK at hGK ⊢
              clear hAA hCC
              (refine gs ?_)
              refine gw ?_
              refine n_loop (σ := Nat) (fun i => [(0, .ptr 0 0), (3, .lit true), (16, .int .i64 (i : Nat))]) (fun _ => [⟨69, [.raw (.slice dgo D.length dgc), .raw (.slice kno K.length knc)], true⟩, ⟨100, [.res (rowRes 100 3 dgo D.length dgc (CD.flatMap dC))], true⟩, ⟨103, [.res (rowRes 103 3 kno K.length knc (CK.flatMap kC))], true⟩, ⟨49, [.res (allRes (BD))], true⟩, ⟨47, [.res (allRes (BK))], true⟩]) (fun i => i ≤ D.length) (fun i => D.length - i) 0 mixed (by omega) (fun _ _ => rfl) rfl (by (repeat (first | exact trivial | refine ⟨⟨rfl, rfl⟩, ?_⟩))) (fun _ _ => ⟨by (repeat (first | exact trivial | refine ⟨⟨_, rfl⟩, ?_⟩)), by (repeat (first | exact trivial | refine ⟨⟨_, rfl⟩, ?_⟩))⟩) fun i hi => ?_
              (refine gs ?_)
              refine gw ?_
              by_cases hil : i < D.length
              · as_aux_lemma =>
                have ei : IntKind.i64.wrap ((i : Int) + 1) = ((i + 1 : Nat) : Int) := by rw [w64 (by omega) (by omega)]; simp
                have ew : IntKind.i64.wrap (-1000 - (i : Int)) = -1000 - (i : Int) := w64 (by omega) (by omega)
                have hx : D[i]? = some D[i] := List.getElem?_eq_getElem _
                have hb := hds _ (List.getElem_mem hil)
                have hls := hlD i _ hx
                generalize D[i] = e at hx hb hls
                obtain ⟨g, rfl⟩ := hgD (by omega)
                obtain ⟨m, G, hCi, hAi, r1, r2, hm⟩ := hGD i e hx
                (repeat ((first | refine n_must rfl ?_ | refine n_chk (drawF_ok (by decide +kernel)) ?_ | refine n_same rfl ?_ | ((first | refine n_must ?_ ?_ | refine n_brT ?_ ?_); (focus (first | (simp [hil]; done) | (simp [hil]; omega) | (simp only [hil]; simp; done)))) | (refine n_brF ?_ ?_; (focus (first | (simp [hil]; done) | (simp [hil]; omega) | (simp only [hil]; simp; done)))) | refine n_must (by (with_reducible refine and_shape ?_) <;> kernel_rfl) ?_); (refine gs ?_)))
                (refine n_ldA (.raw (.slice e.l.1 e.L.length e.l.2)) rfl (by first | exact trivial | rfl) rfl (fun _ w1 _ hI1 => load_cell aggVws9 (row_at dC_len (hI1.res 1 rfl rfl) hCi (j := 0) (by omega) rfl (by simp [add_add]))) ?_; (refine gs ?_))
                refine gw ?_
                refine n_sameP (.lit true) rfl rfl rfl (fun _ w1 hp1 hI1 => by rw [ew]; exact viewed_ok (r1.rd (all_at (hI1.res 3 rfl rfl) hAi)) (by omega)) ?_; (refine gs ?_)
                (repeat ((first | refine n_must rfl ?_ | refine n_chk (drawF_ok (by decide +kernel)) ?_ | refine n_same rfl ?_ | ((first | refine n_must ?_ ?_ | refine n_brT ?_ ?_); (focus (first | (simp [hil]; done) | (simp [hil]; omega) | (simp only [hil]; simp; done)))) | (refine n_brF ?_ ?_; (focus (first | (simp [hil]; done) | (simp [hil]; omega) | (simp only [hil]; simp; done)))) | refine n_must (by (with_reducible refine and_shape ?_) <;> kernel_rfl) ?_); (refine gs ?_)))
                (refine n_ldA (.raw (.slice m.1 m.2.1 m.2.2)) rfl (by first | exact trivial | rfl) rfl (fun _ w1 _ hI1 => load_cell aggVws9 (row_at dC_len (hI1.res 1 rfl rfl) hCi (j := 2) (by omega) rfl (by simp [add_add]))) ?_; (refine gs ?_))
                refine gw ?_
                refine n_sameP (.lit true) rfl rfl rfl (fun _ w1 hp1 hI1 => by rw [ew]; exact viewed_ok (r2.rd (all_at (hI1.res 3 rfl rfl) hAi)) (by omega)) ?_; (refine gs ?_)
                refine gw ?_
                exact n_again ⟨i + 1, by omega, by omega, (by (repeat (first | exact trivial | refine ⟨⟨rfl, rfl⟩, ?_⟩ | refine ⟨⟨rfl, congrArg (SV.int .i64) ei⟩, ?_⟩))), ⟨_, rfl⟩⟩
              · obtain rfl : i = D.length := by omega
                (repeat ((first | refine n_must rfl ?_ | refine n_chk (drawF_ok (by decide +kernel)) ?_ | refine n_same rfl ?_ | ((first | refine n_must ?_ ?_ | refine n_brT ?_ ?_); (focus (first | (simp [hil]; done) | (simp [hil]; omega) | (simp only [hil]; simp; done)))) | (refine n_brF ?_ ?_; (focus (first | (simp [hil]; done) | (simp [hil]; omega) | (simp only [hil]; simp; done)))) | refine n_must (by (with_reducible refine and_shape ?_) <;> kernel_rfl) ?_); (refine gs ?_)))
                refine n_exit rfl ?_
                as_aux_lemma =>
                (refine gs ?_)
                refine gw ?_
                refine n_loop (σ := Nat) (fun i => [(0, .ptr 0 0), (3, .lit true), (17, .int .i64 (i : Nat))]) (fun _ => [⟨69, [.raw (.slice dgo D.length dgc), .raw (.slice kno K.length knc)], true⟩, ⟨100, [.res (rowRes 100 3 dgo D.length dgc (CD.flatMap dC))], true⟩, ⟨103, [.res (rowRes 103 3 kno K.length knc (CK.flatMap kC))], true⟩, ⟨49, [.res (allRes (BD))], true⟩, ⟨47, [.res (allRes (BK))], true⟩]) (fun i => i ≤ K.length) (fun i => K.length - i) 0 mixed (by omega) (fun _ _ => rfl) rfl (by (repeat (first | exact trivial | refine ⟨⟨rfl, rfl⟩, ?_⟩))) (fun _ _ => ⟨by (repeat (first | exact trivial | refine ⟨⟨_, rfl⟩, ?_⟩)), by (repeat (first | exact trivial | refine ⟨⟨_, rfl⟩, ?_⟩))⟩) fun i hi => ?_
                (refine gs ?_)
                refine gw ?_
                by_cases hil : i < K.length
                · as_aux_lemma =>
                  have ei : IntKind.i64.wrap ((i : Int) + 1) = ((i + 1 : Nat) : Int) := by rw [w64 (by omega) (by omega)]; simp
                  have ew : IntKind.i64.wrap (-1000 - (i : Int)) = -1000 - (i : Int) := w64 (by omega) (by omega)
                  have hx : K[i]? = some K[i] := List.getElem?_eq_getElem _
                  have hb := hks _ (List.getElem_mem hil)
                  have hls := hlK i _ hx
                  generalize K[i] = e at hx hb hls
                  obtain ⟨g, rfl⟩ := hgK (by omega)
                  obtain ⟨m, G, hCi, hAi, r1, r2, hm⟩ := hGK i e hx
                  (repeat ((first | refine n_must rfl ?_ | refine n_chk (drawF_ok (by decide +kernel)) ?_ | refine n_same rfl ?_ | ((first | refine n_must ?_ ?_ | refine n_brT ?_ ?_); (focus (first | (simp [hil]; done) | (simp [hil]; omega) | (simp only [hil]; simp; done)))) | (refine n_brF ?_ ?_; (focus (first | (simp [hil]; done) | (simp [hil]; omega) | (simp only [hil]; simp; done)))) | refine n_must (by (with_reducible refine and_shape ?_) <;> kernel_rfl) ?_); (refine gs ?_)))
                  (refine n_ldA (.raw (.slice e.l.1 e.L.length e.l.2)) rfl (by first | exact trivial | rfl) rfl (fun _ w1 _ hI1 => load_cell aggRts9 (row_at kC_len (hI1.res 2 rfl rfl) hCi (j := 0) (by omega) rfl (by simp [add_add]))) ?_; (refine gs ?_))
                  refine gw ?_
                  refine n_sameP (.lit true) rfl rfl rfl (fun _ w1 hp1 hI1 => by rw [ew]; exact righted_ok (r1.rd (all_at (hI1.res 4 rfl rfl) hAi)) (by omega)) ?_; (refine gs ?_)
                  (repeat ((first | refine n_must rfl ?_ | refine n_chk (drawF_ok (by decide +kernel)) ?_ | refine n_same rfl ?_ | ((first | refine n_must ?_ ?_ | refine n_brT ?_ ?_); (focus (first | (simp [hil]; done) | (simp [hil]; omega) | (simp only [hil]; simp; done)))) | (refine n_brF ?_ ?_; (focus (first | (simp [hil]; done) | (simp [hil]; omega) | (simp only [hil]; simp; done)))) | refine n_must (by (with_reducible refine and_shape ?_) <;> kernel_rfl) ?_); (refine gs ?_)))
                  (refine n_ldA (.raw (.slice m.1 m.2.1 m.2.2)) rfl (by first | exact trivial | rfl) rfl (fun _ w1 _ hI1 => load_cell aggRts9 (row_at kC_len (hI1.res 2 rfl rfl) hCi (j := 2) (by omega) rfl (by simp [add_add]))) ?_; (refine gs ?_))
                  refine gw ?_
                  refine n_sameP (.lit true) rfl rfl rfl (fun _ w1 hp1 hI1 => by rw [ew]; exact righted_ok (r2.rd (all_at (hI1.res 4 rfl rfl) hAi)) (by omega)) ?_; (refine gs ?_)
                  refine gw ?_
                  exact n_again ⟨i + 1, by omega, by omega, (by (repeat (first | exact trivial | refine ⟨⟨rfl, rfl⟩, ?_⟩ | refine ⟨⟨rfl, congrArg (SV.int .i64) ei⟩, ?_⟩))), ⟨_, rfl⟩⟩
                · obtain rfl : i = K.length := by omega
                  (repeat ((first | refine n_must rfl ?_ | refine n_chk (drawF_ok (by decide +kernel)) ?_ | refine n_same rfl ?_ | ((first | refine n_must ?_ ?_ | refine n_brT ?_ ?_); (focus (first | (simp [hil]; done) | (simp [hil]; omega) | (simp only [hil]; simp; done)))) | (refine n_brF ?_ ?_; (focus (first | (simp [hil]; done) | (simp [hil]; omega) | (simp only [hil]; simp; done)))) | refine n_must (by (with_reducible refine and_shape ?_) <;> kernel_rfl) ?_); (refine gs ?_)))
                  refine n_exit rfl ?_
                  as_aux_lemma =>
                  (refine gs ?_)
                  refine gw ?_
                  exact n_ret0 rfl rfl fun ids' w' hp hI' => ⟨rfl, hI'.frm⟩
end
section
set_option maxRecDepth 100000
set_option linter.unusedSimpArgs false
set_option linter.unusedVariables false
set_option maxHeartbeats 8000000
open Go.RowKit

theorem dig_row {v mb nb n : Nat} {s : Vs} {r : Rv} {w : World} (hrel : VRel s r n) (hl : r.All.length ≤ 100000) (hR : (viewsRes v mb nb s).R w) :
    Calls Try.prog 16 #[pV v] w fun e w' => ∃ y : Option Addr × Nat, e = .returned (.slice y.1 (rDigF r).length y.2) ∧ (0 < (rDigF r).length → ∃ g, y.1 = some ⟨g, 0, none⟩) ∧ FreshR w w' (vRow y.1 (rDigF r).length y.2 (vws (rDigF r))) := by
  have hnd : (s.V.map (·.1)).Nodup := hR.2.1.nodup
  have hV := V_le hrel hnd
  refine (Digest_ok hR (by omega) (mine_ne hrel hnd)).mono fun e w' ⟨y, he, ⟨h1, h2⟩, hf⟩ => ?_
  have := digest_like hrel hnd h1 h2
  rw [this] at he hf
  exact ⟨y.1, he, fun h => rowRes_some' hf.2.1 h, hf⟩
theorem row_of_cells {b n : Nat} {L : List (Int × Int)} {w : World} (hn : L.length = n) (hm : n ≤ 1000000) (h : (cellsRes b (rts L) 47).R w) : (rRow (some ⟨b, 0, none⟩) n n (rts L)).R w := by
  have hl : (rts L).length = n * 2 := by rw [rts_len, hn]
  show w.ownsRow 0 47 2 (.slice (some ⟨b, 0, none⟩) n n) n (rts L)
  refine ⟨hl, .inr ⟨b, n, (rts L).toArray, rfl, Nat.zero_le _, h, Nat.le_refl _, by unfold maxLen; omega, by simp only [List.size_toArray, hl], ?_⟩⟩
  exact List.take_of_length_le (by rw [hl]; exact Nat.le_refl _)
theorem knw_row {v mb nb n : Nat} {s : Vs} {r : Rv} {w : World} (hrel : VRel s r n) (hn : n ≤ 16) (nm : ByteArray) (hnm : nm.size ≤ maxLen) (hR : (viewsRes v mb nb s).R w) :
    Calls Try.prog 19 #[pV v, .string nm] w fun e w' => ∃ y : Nat, e = .returned (.slice (some ⟨y, 0, none⟩) n n) ∧ True ∧ FreshR w w' (rRow (some ⟨y, 0, none⟩) n n (rts (rKnownL r.All nm n))) := by
  have hlen : s.ns.length = n := hrel.len
  have hkl : (rKnownL r.All nm n).length = n := by simp [rKnownL]
  refine (Known_ok hR (by omega) nm hnm).mono fun e w' ⟨y, he, _, f1, f2, f3, f4⟩ => ⟨y, by rw [he, hlen], trivial, f1, ?_, fun x hx => f3 x (by simpa [rowRes, cellsRes] using hx), fun x hx => f4 x (by simpa [rowRes, cellsRes] using hx)⟩
  rw [hlen, known_like hrel] at f2
  exact row_of_cells hkl (by omega) f2
theorem dgL_len (n : Nat) : (dgL n).length = n := by simp [dgL]
theorem knL_len (n : Nat) : (knL n).length = n := by simp [knL]
theorem dgL_at {n k : Nat} (h : k < n) : (dgL n)[k]? = some ⟨{ data := #[] }, 0, 0, -1 - (k : Int), 0, 0, 0⟩ := by simp [dgL, h]
theorem knL_at {n k : Nat} (h : k < n) : (knL n)[k]? = some (-1 - (k : Int), -7) := by simp [knL, h]
theorem marked_ok {b bk : Nat} {P : Pq} {w : World} (hd : P.dg.2.1 ≤ 1000000) (hk : P.kn.2.1 ≤ 1000000) (hR : (pqRes b bk P).R w) : Calls Try.prog 54 #[pV b] w fun e w' => e = .returned (.bool true) ∧ Frm [] w w' := by
  obtain ⟨v, mb, nb, s, q, ⟨oc1, oc2⟩, r, ⟨go, gn, gc⟩, ⟨ko, kn, kc⟩⟩ := P
  dsimp only at hd hk
  have hI : Inv (cx 67 [] [] w) w [b, 0, 0, 0, 0] (ro (pqMem bk ⟨v, mb, nb, s, q, (oc1, oc2), r, (go, gn, gc), (ko, kn, kc)⟩)) := memRes_read hR
  have hG : (readRes go (vws (dgL gn))).R w := memRes_res hR 3 rfl rfl
  have hK : (readRes ko (rts (knL kn))).R w := memRes_res hR 4 rfl rfl
  refine calls_sm (cx 67 [] [] w) (vals := [.ptr 0 0]) mixed Try.func54 rfl rfl rfl hI rfl (st rfl ?_); conv => arg 3; whnf
  refine gw ?_
  refine n_loop (σ := Nat) (fun i => [(0, .ptr 0 0), (3, .int .i64 (i : Nat))]) (fun _ => (ro (pqMem bk ⟨v, mb, nb, s, q, (oc1, oc2), r, (go, gn, gc), (ko, kn, kc)⟩))) (fun i => i ≤ gn) (fun i => gn - i) 0 mixed (by omega) (fun _ _ => rfl) rfl (by (repeat (first | exact trivial | refine ⟨⟨rfl, rfl⟩, ?_⟩))) (fun s _ => ⟨by (repeat (first | exact trivial | refine ⟨⟨_, rfl⟩, ?_⟩)), by (repeat (first | exact trivial | refine ⟨⟨_, rfl⟩, ?_⟩))⟩) fun i hi => ?_
  (refine gs ?_)
  by_cases hil : i < gn
  · have ei : IntKind.i64.wrap ((i : Int) + 1) = ((i + 1 : Nat) : Int) := by rw [w64 (by omega) (by omega)]; simp
    have em : IntKind.i64.wrap (-1 - (i : Int)) = -1 - (i : Int) := w64 (by omega) (by omega)
    have hx := dgL_at hil
    obtain ⟨ad, rfl⟩ : ∃ a, go = some a := read_some hG (by rw [dgL_len]; omega)
    (repeat ((first | refine n_must rfl ?_ | refine n_chk (drawF_ok (by decide +kernel)) ?_ | refine n_same rfl ?_ | ((first | refine n_must ?_ ?_ | refine n_brT ?_ ?_); (focus (first | (simp [hil]; done) | (simp [hil]; omega) | (simp only [hil]; simp; done)))) | (refine n_brF ?_ ?_; (focus (first | (simp [hil]; done) | (simp [hil]; omega) | (simp only [hil]; simp; done)))) | refine n_must (by (with_reducible refine and_shape ?_) <;> kernel_rfl) ?_); (refine gs ?_)))
    (refine n_ldA (.int .i64 (-1 - (i : Int))) rfl (by first | exact trivial | rfl) rfl (fun _ w1 _ hI1 => load_cell aggInt (read_cell (hI1.res 3 rfl rfl) hx (j := 3) rfl (by simp [add_add]))) ?_; (refine gs ?_))
    (repeat ((first | refine n_must rfl ?_ | refine n_chk (drawF_ok (by decide +kernel)) ?_ | refine n_same rfl ?_ | ((first | refine n_must ?_ ?_ | refine n_brT ?_ ?_); (focus (first | (simp [hil, em]; done) | (simp [hil, em]; omega) | (simp only [hil, em]; simp; done)))) | (refine n_brF ?_ ?_; (focus (first | (simp [hil, em]; done) | (simp [hil, em]; omega) | (simp only [hil, em]; simp; done)))) | refine n_must (by (with_reducible refine and_shape ?_) <;> kernel_rfl) ?_); (refine gs ?_)))
    (refine n_ldA (.str { data := #[] }) rfl (by first | exact trivial | rfl) rfl (fun _ w1 _ hI1 => load_cell aggStr (read_cell (hI1.res 3 rfl rfl) hx (j := 0) rfl (by simp [add_add]))) ?_; (refine gs ?_))
    refine gw ?_
    exact n_again ⟨i + 1, by omega, by omega, (by (repeat (first | exact trivial | refine ⟨⟨rfl, rfl⟩, ?_⟩ | refine ⟨⟨rfl, congrArg (SV.int .i64) ei⟩, ?_⟩))), ⟨_, rfl⟩⟩
  · obtain rfl : gn = i := by omega
    (repeat ((first | refine n_must rfl ?_ | refine n_chk (drawF_ok (by decide +kernel)) ?_ | refine n_same rfl ?_ | ((first | refine n_must ?_ ?_ | refine n_brT ?_ ?_); (focus (first | (simp [hil]; done) | (simp [hil]; omega) | (simp only [hil]; simp; done)))) | (refine n_brF ?_ ?_; (focus (first | (simp [hil]; done) | (simp [hil]; omega) | (simp only [hil]; simp; done)))) | refine n_must (by (with_reducible refine and_shape ?_) <;> kernel_rfl) ?_); (refine gs ?_)))
    refine n_exit rfl ?_
    (refine gs ?_)
    refine gw ?_
    refine n_loop (σ := Nat) (fun k => [(0, .ptr 0 0), (4, .int .i64 (k : Nat))]) (fun _ => (ro (pqMem bk ⟨v, mb, nb, s, q, (oc1, oc2), r, (go, gn, gc), (ko, kn, kc)⟩))) (fun k => k ≤ kn) (fun k => kn - k) 0 mixed (by omega) (fun _ _ => rfl) rfl (by (repeat (first | exact trivial | refine ⟨⟨rfl, rfl⟩, ?_⟩))) (fun s _ => ⟨by (repeat (first | exact trivial | refine ⟨⟨_, rfl⟩, ?_⟩)), by (repeat (first | exact trivial | refine ⟨⟨_, rfl⟩, ?_⟩))⟩) fun k hk2 => ?_
    (refine gs ?_)
    by_cases hkn : k < kn
    · have ek : IntKind.i64.wrap ((k : Int) + 1) = ((k + 1 : Nat) : Int) := by rw [w64 (by omega) (by omega)]; simp
      have em : IntKind.i64.wrap (-1 - (k : Int)) = -1 - (k : Int) := w64 (by omega) (by omega)
      have hx := knL_at hkn
      obtain ⟨ad, rfl⟩ : ∃ a, ko = some a := rt_some hK (by rw [knL_len]; omega)
      (repeat ((first | refine n_must rfl ?_ | refine n_chk (drawF_ok (by decide +kernel)) ?_ | refine n_same rfl ?_ | ((first | refine n_must ?_ ?_ | refine n_brT ?_ ?_); (focus (first | (simp [hkn]; done) | (simp [hkn]; omega) | (simp only [hkn]; simp; done)))) | (refine n_brF ?_ ?_; (focus (first | (simp [hkn]; done) | (simp [hkn]; omega) | (simp only [hkn]; simp; done)))) | refine n_must (by (with_reducible refine and_shape ?_) <;> kernel_rfl) ?_); (refine gs ?_)))
      (refine n_ldA (.int .i64 (-1 - (k : Int))) rfl (by first | exact trivial | rfl) rfl (fun _ w1 _ hI1 => load_cell aggInt (rt_cell (hI1.res 4 rfl rfl) hx (j := 0) rfl (by simp [add_add]))) ?_; (refine gs ?_))
      (repeat ((first | refine n_must rfl ?_ | refine n_chk (drawF_ok (by decide +kernel)) ?_ | refine n_same rfl ?_ | ((first | refine n_must ?_ ?_ | refine n_brT ?_ ?_); (focus (first | (simp [hkn, em]; done) | (simp [hkn, em]; omega) | (simp only [hkn, em]; simp; done)))) | (refine n_brF ?_ ?_; (focus (first | (simp [hkn, em]; done) | (simp [hkn, em]; omega) | (simp only [hkn, em]; simp; done)))) | refine n_must (by (with_reducible refine and_shape ?_) <;> kernel_rfl) ?_); (refine gs ?_)))
      (refine n_ldA (.int .i64 (-7)) rfl (by first | exact trivial | rfl) rfl (fun _ w1 _ hI1 => load_cell aggInt (rt_cell (hI1.res 4 rfl rfl) hx (j := 1) rfl (by simp [add_add]))) ?_; (refine gs ?_))
      refine gw ?_
      exact n_again ⟨k + 1, by omega, by omega, (by (repeat (first | exact trivial | refine ⟨⟨rfl, rfl⟩, ?_⟩ | refine ⟨⟨rfl, congrArg (SV.int .i64) ek⟩, ?_⟩))), ⟨_, rfl⟩⟩
    · obtain rfl : k = kn := by omega
      (repeat ((first | refine n_must rfl ?_ | refine n_chk (drawF_ok (by decide +kernel)) ?_ | refine n_same rfl ?_ | ((first | refine n_must ?_ ?_ | refine n_brT ?_ ?_); (focus (first | (simp [hkn]; done) | (simp [hkn]; omega) | (simp only [hkn]; simp; done)))) | (refine n_brF ?_ ?_; (focus (first | (simp [hkn]; done) | (simp [hkn]; omega) | (simp only [hkn]; simp; done)))) | refine n_must (by (with_reducible refine and_shape ?_) <;> kernel_rfl) ?_); (refine gs ?_)))
      refine n_exit rfl ?_
      (refine gs ?_)
      refine gw ?_
      exact n_ret0 rfl rfl fun ids' w' hp hI' => ⟨rfl, hI'.frm⟩

/-! ### A pair and a book, opened side by side -/
theorem Inv.recell {c : Ctx} {w : World} {ids : List Nat} {mem : Mem} (hI : Inv c w ids mem) (i : Nat) {b : SBlk} {n : Nat} {cs : List SV} {l : List Value} (hb : nth mem i = some b) (hn : ids[i]? = some n) (hrw : wrB b = true) (h1 : denL ids b.cells = some l) (h2 : denL ids cs = some l) : Inv c w ids (setCells mem i cs) := by
  have h := hI.upd i hb hn hrw h2 (Frm.refl [n] w) (hI.at0 i hb hn h1)
  rwa [← setCells_eq hb] at h
theorem bk_den (B : Bk) : ∀ i b, nth (bkMem B) i = some b → resOf b = none → ∃ l, denL [] b.cells = some l := by
  intro i b hb hr
  match i, hb with
  | 0, hb => cases hb; exact ⟨_, rfl⟩
  | 1, hb => cases hb; cases hr
  | 2, hb => cases hb; cases hr
  | 3, hb => cases hb; cases hr
  | 4, hb => cases hb; cases hr
theorem Reads.fp {G : List (Option Addr × List Value)} {o : Option Addr} {xs : List Value} (h : Reads G o xs) : ∀ x ∈ (readRes o xs).fp, x ∈ (rdsRes G).fp := by
  obtain ⟨y, hy, rfl, zs, e⟩ := h
  intro x hx
  refine List.mem_flatMap.2 ⟨y, hy, ?_⟩
  obtain ⟨yo, yx⟩ := y
  dsimp only at e hx ⊢
  subst e
  cases yo with
  | none => cases hx
  | some a =>
    obtain rfl := rd_fp hx
    cases xs with
    | nil => cases hx
    | cons u us => simp [readRes]
abbrev opIds (b bk : Nat) : List Nat := [0, 0, b, 0, 0, 0, 0, bk, 0, 0, 0, 0]
abbrev opMem (P : Pq) (B : Bk) : Mem := [⟨72, [.res Res.none], true⟩, ⟨69, [.res Res.none], true⟩,
  ⟨72, [.raw (pV P.v), .raw (pV P.q), .raw (.slice P.dg.1 P.dg.2.1 P.dg.2.2), .raw (.slice P.kn.1 P.kn.2.1 P.kn.2.2), .ptr 7 0], true⟩, ⟨84, [.res (viewsRes P.v P.mb P.nb P.s)], true⟩, ⟨113, [.res (rvRes P.q P.oc.1 P.oc.2 P.r)], true⟩, ⟨49, [.res (dgRes P.dg)], true⟩, ⟨47, [.res (knRes P.kn)], true⟩,
  ⟨69, [.raw (.slice B.dgo B.D.length B.dgc), .raw (.slice B.kno B.K.length B.knc)], true⟩, ⟨100, [.res (rowRes 100 3 B.dgo B.D.length B.dgc (B.D.flatMap De.c))], true⟩, ⟨103, [.res (rowRes 103 3 B.kno B.K.length B.knc (B.K.flatMap Kn.c))], true⟩, ⟨49, [.res (allRes (B.D.map De.res))], true⟩, ⟨47, [.res (allRes (B.K.map Kn.res))], true⟩]
theorem open_pb {N : Nat} {os : List (Nat × Odr)} {b bk : Nat} {P : Pq} {B : Bk} {w : World} (hR : ((pqRes b bk P).both (bkRes bk B)).R w) : Inv (cx N os ((pqRes b bk P).both (bkRes bk B)).fp w) w (opIds b bk) (opMem P B) := by
  obtain ⟨h1, h2, h3⟩ := hR
  have hI0 : Inv (cx N os ((pqRes b bk P).both (bkRes bk B)).fp w) w [0, 0] [⟨72, [.res (pqRes b bk P)], true⟩, ⟨69, [.res (bkRes bk B)], true⟩] :=
    ((Inv.nil w).consR (by simp) h1 (memRes_lt h1) (fun _ x hx => List.mem_append.2 (.inl hx))).consR (fun x hx hx2 => h3 x (by simpa [fpsOf, resOf] using hx2) hx) h2 (memRes_lt h2) (fun _ x hx => List.mem_append.2 (.inr hx))
  have hI1 := hI0.spill 0 rfl rfl rfl (pq_den bk P)
  have hI2 := hI1.spill 1 rfl rfl rfl (bk_den B)
  exact hI2.recell 2 (cs := [.raw (pV P.v), .raw (pV P.q), .raw (.slice P.dg.1 P.dg.2.1 P.dg.2.2), .raw (.slice P.kn.1 P.kn.2.1 P.kn.2.2), .ptr 7 0]) rfl rfl rfl rfl rfl
end
end Go.Proofs.Ytcpecnpnnodfhaa
