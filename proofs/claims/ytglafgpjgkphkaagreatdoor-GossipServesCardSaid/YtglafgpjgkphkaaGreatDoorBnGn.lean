/- slices.SortFunc at views, by names: rows; the order. append([]T{..}, l...): a new block grows by a slice; a part is shrunk. -/
import Derived.Test.YtglafgpjgkphkaaGreatDoorBnVb
import Derived.Test.YtglafgpjgkphkaaGreatDoorBnU
import Derived.Test.YtglafgpjgkphkaaGreatDoorGrow
import Derived.Test.YtglafgpjgkphkaaGreatDoorVwZ
import Derived.Test.YtglafgpjgkphkaaGreatDoorGath
namespace Go.Proofs.YtglafgpjgkphkaaGreatDoor
section
set_option maxRecDepth 100000
set_option linter.unusedSimpArgs false
set_option linter.unusedVariables false
set_option maxHeartbeats 8000000
open Go.RowKit
open Go.Shelf
open Go.Sort

/-! ### Rows of views -/
theorem rowRes_lt {e : TypeId} {size n cap : Nat} {o : Option Addr} {xs : List Value} {w : World} (h : (rowRes e size o n cap xs).R w) : ∀ x ∈ (rowRes e size o n cap xs).fp, x < w.heap.size := by
  have h' : w.ownsRow 0 e size (.slice o n cap) n xs := h
  intro x hx
  cases o with
  | none => simp [rowRes] at hx
  | some a =>
    simp [rowRes] at hx
    subst hx
    exact (h'.lt _ rfl).2
abbrev vRow (o : Option Addr) (n cap : Nat) (xs : List Value) : Res := rowRes 104 7 o n cap xs
abbrev vws (L : List Vw) : List Value := L.flatMap Vw.l
theorem vws_len (L : List Vw) : (vws L).length = L.length * 7 := flat_len vw_len L
theorem vws_one (L : List Vw) : ∀ u ∈ vws L, u.oneCell' = true := by
  intro u hu
  obtain ⟨t, _, ht⟩ := List.mem_flatMap.1 hu
  simp at ht
  rcases ht with rfl | rfl | rfl | rfl | rfl | rfl | rfl <;> rfl
theorem vws_app (L M : List Vw) : vws (L ++ M) = vws L ++ vws M := List.flatMap_append
theorem vws_add (L : List Vw) (t : Vw) : vws L ++ t.l = vws (L ++ [t]) := by rw [vws_app]; simp
theorem infoVw : (Tryz.prog.info? 104).map (fun i => (i.zero, i.size, i.bytes)) = some (some Vw.zero.val, 7, 64) := by kernel_rfl
theorem elemVw : sliceElem Tryz.prog 75 = some 104 := by kernel_rfl

/-! ### A row as the sort sees it -/
instance : Inhabited Vw := ⟨Vw.zero⟩
theorem flatK_vws (L : List Vw) : (flatK Vw.l 7 L.toArray).toList = vws L := by
  apply List.ext_getElem?
  intro t
  by_cases ht : t < L.length * 7
  · have hi : t / 7 < L.length := by omega
    have hx : L[t / 7]? = some L[t / 7] := List.getElem?_eq_getElem hi
    have h := flat_at (f := Vw.l) vw_len hx (j := t % 7) (Nat.mod_lt _ (by omega))
    rw [show t / 7 * 7 + t % 7 = t by omega] at h
    have hl : t % 7 < (L[t / 7]).l.length := Nat.mod_lt _ (by omega)
    show _ = (L.flatMap Vw.l)[t]?
    rw [h]
    unfold flatK
    simp only [Array.toList_map, Array.toList_range, List.getElem?_map, List.size_toArray]
    rw [List.getElem?_range ht]
    simp only [Option.map_some]
    rw [List.getElem?_eq_getElem hl]
    congr 1
    have e1 : L.toArray[t / 7]! = L[t / 7] := by simp [hi]
    rw [e1]
    exact getElem!_pos (L[t / 7]).l (t % 7) hl
  · rw [List.getElem?_eq_none (by simp; omega), List.getElem?_eq_none (by rw [vws_len]; omega)]
theorem row_holds {g n cap : Nat} {L : List Vw} {w : World} (h : (vRow (some ⟨g, 0, none⟩) n cap (vws L)).R w) : HoldsK Vw.l 7 w g 0 L.toArray := by
  have h' : w.ownsRow 0 104 7 (.slice (some ⟨g, 0, none⟩) n cap) n (vws L) := h
  obtain ⟨hlen, hh⟩ := h'
  rcases hh with ⟨h2, _⟩ | ⟨g', cap', cur, h2, hb, hg, hnc, hcm, hcs, htake⟩
  · simp at h2
  simp only [Value.slice.injEq, Option.some.injEq, Addr.mk.injEq, and_true, true_and] at h2
  obtain ⟨rfl, rfl⟩ := h2
  intro j hj
  have hj' : j < (vws L).length := by rw [← flatK_vws]; simpa using hj
  refine ⟨?_, ?_⟩
  · have hc : (vws L)[j]? = some ((flatK Vw.l 7 L.toArray)[j]!) := by
      rw [← flatK_vws]
      rw [Array.getElem?_toList, Array.getElem?_eq_getElem hj, getElem!_pos (flatK Vw.l 7 L.toArray) j hj]
    have := rowRes_cell (a := ⟨g, 0, none⟩) h hc
    rw [add_mk] at this
    simpa using this
  · simp only [World.frozen?, hg]
    simp
theorem sort_row {g n cap : Nat} {L L' : List Vw} {w : World} {m : Nat} {os : Array Obj} (h : (vRow (some ⟨g, 0, none⟩) n cap (vws L)).R w) (hl : L'.length = L.length) :
    Frm [g] w (sortWorldK Vw.l 7 w g 0 m L'.toArray os) ∧ (vRow (some ⟨g, 0, none⟩) n cap (vws L')).R (sortWorldK Vw.l 7 w g 0 m L'.toArray os) := by
  have h' : w.ownsRow 0 104 7 (.slice (some ⟨g, 0, none⟩) n cap) n (vws L) := h
  obtain ⟨hlen, hh⟩ := h'
  rcases hh with ⟨h2, _⟩ | ⟨g', cap', cur, h2, hb, hg, hnc, hcm, hcs, htake⟩
  · simp at h2
  simp only [Value.slice.injEq, Option.some.injEq, Addr.mk.injEq, and_true, true_and] at h2
  obtain ⟨rfl, rfl⟩ := h2
  have hgl : g < w.heap.size := (Array.getElem?_eq_some_iff.1 hg).1
  have hF : (flatK Vw.l 7 L'.toArray).size = n * 7 := by
    rw [size_flatK]; simp only [List.size_toArray, hl]
    have := vws_len L
    omega
  have hcl : n * 7 ≤ cur.size := by rw [hcs]; exact Nat.mul_le_mul_right _ hnc
  have hsz : w.heap.size ≤ (sortWorldK Vw.l 7 w g 0 m L'.toArray os).heap.size := by
    unfold sortWorldK putRowK putRow mapBlock grow
    simp [Sort.ahead]
  have hold : ∀ k, k < w.heap.size → (sortWorldK Vw.l 7 w g 0 m L'.toArray os).heap[k]? = (w.heap.modify g (onCells (putCells id 0 (flatK Vw.l 7 L'.toArray))))[k]? := by
    intro k hk
    unfold sortWorldK putRowK putRow mapBlock grow
    simp only [Sort.ahead]
    rw [Array.getElem?_append_left (by simpa using hk)]
  refine ⟨⟨rfl, rfl, rfl, hsz, fun k hk hn => ?_, Nat.le_add_right _ _⟩, ?_⟩
  · rw [hold k hk, Array.getElem?_modify, if_neg (by simp at hn; exact fun e => hn e.symm)]
  · have hblk : (sortWorldK Vw.l 7 w g 0 m L'.toArray os).heap[g]? = some (.cells (putCells id 0 (flatK Vw.l 7 L'.toArray) cur) 104 (0, 0)) := by
      rw [hold g hgl, Array.getElem?_modify, if_pos rfl, hg]
      rfl
    refine ⟨by rw [vws_len, hl]; have := vws_len L; omega, .inr ⟨g, cap, _, rfl, hb, hblk, hnc, hcm, by simp [putCells, hcs], ?_⟩⟩
    rw [← flatK_vws]
    apply List.ext_getElem?
    intro t
    rw [List.getElem?_take]
    by_cases ht : t < n * 7
    · rw [if_pos ht, Array.getElem?_toList, Array.getElem?_toList, Array.getElem?_eq_getElem (xs := flatK Vw.l 7 L'.toArray) (by rw [hF]; exact ht)]
      unfold putCells
      rw [Array.getElem?_mapIdx, Array.getElem?_eq_getElem (by omega)]
      simp only [Option.map_some, Nat.zero_le, Nat.zero_add, true_and, Nat.sub_zero, id]
      rw [if_pos (by rw [hF]; exact ht), getElem!_pos (flatK Vw.l 7 L'.toArray) t (by rw [hF]; exact ht)]
    · rw [if_neg ht, List.getElem?_eq_none (by simp only [Array.length_toList, hF]; omega)]

/-! ### The order -/
def cmpS (x y : ByteArray) : Int := if ltS x y then -1 else if ltS y x then 1 else 0
abbrev cmpV (a b : Vw) : Int := cmpS a.nm b.nm
theorem nanS_ok (x : ByteArray) (w : World) : Calls Tryz.prog 63 #[.string x] w fun e w' => e = .returned (.bool false) ∧ Frm [] w w' := by
  have hI := Inv.nil (P := Tryz.prog) (N := 6) (S := []) (os := []) w
  refine calls_sm (cx 6 [] [] w) (vals := [.str x]) mixed Tryz.func63 rfl rfl rfl hI rfl (st rfl ?_); conv => arg 3; whnf
  refine gw ?_
  refine n_ret0 rfl rfl fun ids' w' hp hI' => ⟨ret_bool ?_, hI'.frm⟩
  simp
theorem cmpS_ok (x y : ByteArray) (w : World) : Calls Tryz.prog 49 #[.string x, .string y] w fun e w' => e = .returned (.int .i64 (cmpS x y)) ∧ Frm [] w w' := by
  have hI := Inv.nil (P := Tryz.prog) (N := 20) (S := []) (os := []) w
  refine calls_sm (cx 20 [] [] w) (vals := [.str x, .str y]) mixed Tryz.func49 rfl rfl rfl hI rfl (st rfl ?_); conv => arg 3; whnf
  refine gw ?_
  refine n_sameP (.bool false) rfl rfl rfl (fun _ w1 hp1 hI1 => nanS_ok x w1) ?_; (refine gs ?_)
  refine gw ?_
  refine n_sameP (.bool false) rfl rfl rfl (fun _ w1 hp1 hI1 => nanS_ok y w1) ?_; (refine gs ?_)
  cases h1 : ltS x y with
  | true =>
    have h1' : Op.bytesLess x.toList y.toList = true := h1
    (repeat ((first | refine n_must rfl ?_ | refine n_chk (drawF_ok (by decide +kernel)) ?_ | refine n_same rfl ?_ | ((first | refine n_must ?_ ?_ | refine n_brT ?_ ?_); (focus (first | (simp [h1']; done) | (simp [h1']; omega) | (simp only [h1']; simp; done)))) | (refine n_brF ?_ ?_; (focus (first | (simp [h1']; done) | (simp [h1']; omega) | (simp only [h1']; simp; done)))) | refine n_must (by (with_reducible refine and_shape ?_) <;> kernel_rfl) ?_); (refine gs ?_)))
    refine n_ret0 rfl rfl fun ids' w' hp hI' => ⟨ret_int ?_, hI'.frm⟩
    simp [cmpS, h1]
  | false =>
    have h1' : Op.bytesLess x.toList y.toList = false := h1
    have hle : (x.toList == y.toList) = !ltS y x := by
      have := leS_eq x y
      rw [h1'] at this
      simpa using this
    cases h2 : ltS y x with
    | true =>
      rw [h2] at hle
      have hne : ¬ x.toList = y.toList := by simpa using hle
      (repeat ((first | refine n_must rfl ?_ | refine n_chk (drawF_ok (by decide +kernel)) ?_ | refine n_same rfl ?_ | ((first | refine n_must ?_ ?_ | refine n_brT ?_ ?_); (focus (first | (simp [h1', hne]; done) | (simp [h1', hne]; omega) | (simp only [h1', hne]; simp; done)))) | (refine n_brF ?_ ?_; (focus (first | (simp [h1', hne]; done) | (simp [h1', hne]; omega) | (simp only [h1', hne]; simp; done)))) | refine n_must (by (with_reducible refine and_shape ?_) <;> kernel_rfl) ?_); (refine gs ?_)))
      refine n_ret0 rfl rfl fun ids' w' hp hI' => ⟨ret_int ?_, hI'.frm⟩
      simp [cmpS, h1, h2]
    | false =>
      rw [h2] at hle
      have he : x.toList = y.toList := by simpa using hle
      rw [he] at h1'
      (repeat ((first | refine n_must rfl ?_ | refine n_chk (drawF_ok (by decide +kernel)) ?_ | refine n_same rfl ?_ | ((first | refine n_must ?_ ?_ | refine n_brT ?_ ?_); (focus (first | (simp [h1', he]; done) | (simp [h1', he]; omega) | (simp only [h1', he]; simp; done)))) | (refine n_brF ?_ ?_; (focus (first | (simp [h1', he]; done) | (simp [h1', he]; omega) | (simp only [h1', he]; simp; done)))) | refine n_must (by (with_reducible refine and_shape ?_) <;> kernel_rfl) ?_); (refine gs ?_)))
      refine n_ret0 rfl rfl fun ids' w' hp hI' => ⟨ret_int ?_, hI'.frm⟩
      simp [cmpS, h1, h2]
theorem dig1_ok (a b : Vw) (w : World) : Calls Tryz.prog 48 #[a.val, b.val] w fun e w' => e = .returned (.int .i64 (cmpV a b)) ∧ Frm [] w w' := by
  have hI := Inv.nil (P := Tryz.prog) (N := 10) (S := []) (os := []) w
  refine calls_sm (cx 10 [] [] w) (vals := [.agg a.sv, .agg b.sv]) mixed Tryz.func48 rfl rfl rfl hI rfl (st rfl ?_); conv => arg 3; whnf
  refine gw ?_
  refine n_sameP (.int .i64 (cmpS a.nm b.nm)) rfl rfl rfl (fun _ w1 hp1 hI1 => cmpS_ok _ _ w1) ?_; (refine gs ?_)
  refine gw ?_
  exact n_ret0 rfl rfl fun ids' w' hp hI' => ⟨rfl, hI'.frm⟩
theorem ltV (a b : Vw) : ltOf cmpV a b = ltS a.nm b.nm := by
  unfold ltOf cmpV cmpS
  cases h1 : ltS a.nm b.nm <;> cases h2 : ltS b.nm a.nm <;> simp
theorem swoV : SWO (ltOf cmpV) where
  irrefl x := by rw [ltV]; exact ltS_irrefl _
  trans x y z h1 h2 := by rw [ltV] at h1 h2 ⊢; exact ltS_trans h1 h2
  ntrans x y z h1 h2 := by
    rw [ltV] at h1 h2 ⊢
    cases h3 : ltS x.nm z.nm with
    | false => rfl
    | true =>
      by_cases e : y.nm = z.nm
      · rw [← e, h1] at h3; cases h3
      · have := ltS_trans h3 (ltS_total h2 e)
        rw [h1] at this; cases this
theorem laysV (g n : Nat) (w : World) : CmpLays Tryz.prog 48 #[] Vw.l 7 cmpV g 0 n w :=
  fun m os dk _ x y => (dig1_ok x y _).mono fun e w' ⟨he, hf⟩ => ⟨he, frm_grow hf⟩
theorem sortV_ok {g n cap : Nat} {L : List Vw} {w : World} (hl : L.length = n) (hn : n ≤ 1000000) (hnd : L.Pairwise fun a b => a.nm ≠ b.nm) (hR : (vRow (some ⟨g, 0, none⟩) n cap (vws L)).R w) :
    Calls Tryz.prog 47 #[.slice (some ⟨g, 0, none⟩) n cap, .func (.func 48) #[] #[]] w fun e w' => ∃ L' : List Vw, e = .returned (.tuple #[]) ∧ (L'.Perm L ∧ L'.Pairwise fun a b => ltS a.nm b.nm = true) ∧ Frm [g] w w' ∧ (vRow (some ⟨g, 0, none⟩) n cap (vws L')).R w' := by
  have eg : ∀ args w, (callFunc 48 args).run Tryz.prog w = .ok (.enter 48 args) w := enters_of Tryz.func48 (by kernel_rfl) rfl
  have hcon := AnyQ.slices_SortFunc sortVw 7 Tryz.isAgg104 Tryz.sizeOf104 Vw.l vw_len (fun x v hv => by simp at hv; rcases hv with rfl | rfl | rfl | rfl | rfl | rfl | rfl <;> rfl) cmpV swoV 48 #[] g 0 cap L.toArray w eg (laysV g L.toArray.size w) (row_holds hR) (rowRes_lt hR g (by simp [rowRes])) (by simp; omega)
  change Calls Tryz.prog 47 _ _ _ at hcon
  have hs : L.toArray.size = n := by simp [hl]
  rw [hs] at hcon
  refine hcon.mono ?_
  rintro e w' ⟨he, d', m, os, ⟨hp1, hp2, hp3⟩, hso, rfl⟩
  have hpl : d'.toList.Perm L := by
    have h1 : (d'.extract 0 n).toList = d'.toList := by rw [show n = d'.size by rw [hp1, hs], Array.extract_size]
    have h2 : (L.toArray.extract 0 n).toList = L := by rw [← hs, Array.extract_size]
    rw [h1, h2] at hp3
    exact hp3
  have hlen : d'.toList.length = L.length := hpl.length_eq
  have hnd' : d'.toList.Pairwise fun a b => a.nm ≠ b.nm := (hpl.pairwise_iff (fun h => Ne.symm h)).2 hnd
  obtain ⟨hf, hR'⟩ := sort_row (m := m) (os := os) hR hlen
  refine ⟨d'.toList, he, ⟨hpl, ?_⟩, hf, hR'⟩
  rw [List.pairwise_iff_getElem] at hnd' ⊢
  intro i j hi hj hij
  have h1 := hso i j (Nat.zero_le _) hij (by omega)
  have h2 := hnd' i j hi hj hij
  have e1 : d'[i]! = d'.toList[i] := by simp at hi; simp [hi]
  have e2 : d'[j]! = d'.toList[j] := by simp at hj; simp [hj]
  rw [e1, e2, ltV] at h1
  exact ltS_total h1 (fun e => h2 e.symm)
end
section
set_option linter.unusedVariables false
set_option linter.unusedSimpArgs false
open Go.RowKit

section
variable {c : Ctx} {Q : SExit → Fr → Mem → List Nat → World → Prop} {ids : List Nat} {w : World} {fr : Fr} {mem : Mem} {todo : List Task}
/-- A known block as a row. -/
theorem Inv.asRow (hI : Inv c w ids mem) (j : Nat) {bj : SBlk} {q n size : Nat} {xs : List Value} (hb : nth mem j = some bj) (hr : resOf bj = none) (hq : ids[j]? = some q) (hd : denL ids bj.cells = some xs) (hl : xs.length = n * size) (hn : n ≤ 9223372036854775807) :
    Inv c w ids (setCells mem j [.res (rowRes bj.ty size (some ⟨q, 0, none⟩) n n xs)]) := by
  obtain ⟨n', l, h1, h2, hB⟩ := (hI.good j bj hb).blk hr
  rw [hq] at h1; simp at h1; subst h1
  rw [hd] at h2; simp at h2; subst h2
  have hR : (rowRes bj.ty size (some ⟨q, 0, none⟩) n n xs).R w := by
    show w.ownsRow 0 bj.ty size (.slice (some ⟨q, 0, none⟩) n n) n xs
    refine ⟨hl, .inr ⟨q, n, xs.toArray, rfl, Nat.zero_le _, hB, Nat.le_refl _, by unfold maxLen; omega, by simp [hl], ?_⟩⟩
    simp [← hl]
  rw [setCells_eq hb]
  have hfp : ∀ k, fpOf ids k { bj with cells := [SV.res (rowRes bj.ty size (some ⟨q, 0, none⟩) n n xs)] } = [q] := fun k => by rw [fpOf_res (r := rowRes bj.ty size (some ⟨q, 0, none⟩) n n xs) rfl]; rfl
  have hfj : fpOf ids j bj = [q] := fpOf_cells hr hq
  have key : ∀ k b, nth (setNth mem j { bj with cells := [SV.res (rowRes bj.ty size (some ⟨q, 0, none⟩) n n xs)] }) k = some b → (k = j ∧ b = { bj with cells := [SV.res (rowRes bj.ty size (some ⟨q, 0, none⟩) n n xs)] }) ∨ (k ≠ j ∧ nth mem k = some b) := by
    intro k b hk
    rw [nth_setNth] at hk
    split at hk
    · rename_i h1
      rw [if_pos (nth_lt hb)] at hk
      exact .inl ⟨h1.symm, by simpa using hk.symm⟩
    · rename_i h1
      exact .inr ⟨fun e => h1 e.symm, hk⟩
  have hfpe : ∀ k b, nth (setNth mem j { bj with cells := [SV.res (rowRes bj.ty size (some ⟨q, 0, none⟩) n n xs)] }) k = some b → ∃ b0, nth mem k = some b0 ∧ fpOf ids k b = fpOf ids k b0 ∧ b.rw = b0.rw := by
    intro k b hk
    rcases key k b hk with ⟨rfl, rfl⟩ | ⟨_, h⟩
    · exact ⟨bj, hb, by rw [hfp, hfj], rfl⟩
    · exact ⟨b, h, rfl, rfl⟩
  refine ⟨hI.frm, by simp [setNth_len, hI.len], ?_, ?_, ?_⟩
  · intro k b hk
    rcases key k b hk with ⟨rfl, rfl⟩ | ⟨_, h⟩
    · refine ⟨hR, fun x hx => ?_⟩
      have := (hI.good k bj hb).lt x (by rw [hfj]; simpa [rowRes] using hx)
      exact this
    · exact hI.good k b h
  · intro i k bi bk hi hk hik x hx hxk
    obtain ⟨b1, h1, h2, _⟩ := hfpe i bi hi
    obtain ⟨b2, h3, h4, _⟩ := hfpe k bk hk
    rw [h2] at hx
    rw [h4] at hxk
    exact hI.apart i k b1 b2 h1 h3 hik x hx hxk
  · intro i b hi hrw x hx
    obtain ⟨b1, h1, h2, h3⟩ := hfpe i b hi
    rw [h2] at hx
    exact hI.own i b1 h1 (h3 ▸ hrw) x hx

theorem run_append_noneS {P : Program} {w : World} {t ty e : TypeId} {i : TypeInfo} {b : Addr} {n mc : Nat} (ht : P.underlying t = some (.slice e)) (hi : P.info? e = some i) :
    (Builtin.append_ #[t, t] ty #[.slice (some b) n n, .slice none 0 mc]).run P w = .ok (.slice (some b) n n) w := by
  simp [Builtin.append_, run_underlying ht, sizeOf, typeInfo, hi, Builtin.lenOf, Builtin.firstCells, storeCells]

theorem n_appendS {o : Oper} {t e : TypeId} {x y : Operand} {oa : Option Addr} {n m mc j q size bytes : Nat} {xs nv xs' : List Value} {bj : SBlk} {it : TypeInfo} {z : Value}
    (ho : o.op = .call { callee := .builtin .append, args := #[x, y], argTypes := #[t, t] }) (hd : dstOk c o.dst = true) (hu : sliceElem c.P t = some e) (hit : c.P.info? e = some it) (hz : it.zero = some z) (hsz : it.size = size) (hby : it.bytes = bytes) (hzs : z.cells.size = size) (hs0 : 0 < size)
    (hx : ev fr x = some (.sl j 0 n n)) (hb : nth mem j = some bj) (hr : resOf bj = none) (hrw : bj.rw = true) (hty : bj.ty = e) (hq : ids[j]? = some q) (hdj : denL ids bj.cells = some xs) (hlx : xs.length = n * size)
    (hy : ev fr y = some (.raw (.slice oa m mc))) (hlen : nv.length = m * size) (hcell : ∀ ids' w, ids <+: ids' → Inv c w ids' mem → ∀ k u, nv[k]? = some u → ∃ a, oa = some a ∧ w.cell? (a.add k) = some u) (hnil : oa = none → m = 0) (h1 : ∀ u ∈ nv, u.oneCell' = true)
    (h63 : n + m ≤ 9223372036854775807) (hbytes : (n + m) * bytes ≤ 140737488355328) (hn0 : 0 < n) (hxs : xs ++ nv = xs')
    (hk : ∀ g cap', satS c Q ⟨putF o.dst (.raw (.slice (some ⟨g, 0, none⟩) (n + m) cap')) fr, setCells mem j [.res (rowRes e size (some ⟨g, 0, none⟩) (n + m) cap' xs')], todo⟩ ids) : satN c Q (.op o ⟨fr, mem, todo⟩) ids := by
  subst hxs
  subst hty
  refine n_run hd fun ids' w ρ hp hI hρ => ?_
  have hx' := hρ x _ hx
  have hy' := hρ y _ hy
  have hqp := pre_at hp hq
  simp only [den, Option.some.injEq] at hy'
  simp only [den, hqp, Option.some.injEq] at hx'
  have hI2 := hI.asRow j hb hr hqp (denL_mono hp _ _ hdj) hlx (by omega)
  have hb2 : nth (setCells mem j [.res (rowRes bj.ty size (some ⟨q, 0, none⟩) n n xs)]) j = some { bj with cells := [.res (rowRes bj.ty size (some ⟨q, 0, none⟩) n n xs)] } := nth_setCells hb
  have hown : w.ownsRow 0 bj.ty size (.slice (some ⟨q, 0, none⟩) n n) n xs := hI2.res j hb2 rfl
  have hul : c.P.underlying t = some (.slice bj.ty) := by
    unfold sliceElem at hu
    split at hu
    · rename_i e' he; simp at hu; rw [← hu]; exact he
    · cases hu
  have hset : ∀ r : Res, setCells (setCells mem j [.res (rowRes bj.ty size (some ⟨q, 0, none⟩) n n xs)]) j [.res r] = setCells mem j [.res r] := by
    intro r
    rw [setCells_eq hb2, setCells_eq hb, setCells_eq hb]
    have : ∀ (l : List SBlk) (i : Nat) (x z : SBlk), setNth (setNth l i x) i z = setNth l i z := by
      intro l
      induction l with
      | nil => intros; rfl
      | cons a l ih => intro i x z; cases i with | zero => rfl | succ i => simp only [setNth, ih]
    rw [this]
  cases oa with
  | none =>
    have hm := hnil rfl
    subst hm
    have hnv : nv = [] := List.eq_nil_of_length_eq_zero (by simpa using hlen)
    subst hnv
    have hrun := run_append_noneS (P := c.P) (w := w) (ty := o.type) (b := ⟨q, 0, none⟩) (n := n) (mc := mc) hul hit
    refine ⟨_, w, .raw (.slice (some ⟨q, 0, none⟩) (n + 0) n), setCells mem j [.res (rowRes bj.ty size (some ⟨q, 0, none⟩) (n + 0) n (xs ++ []))], ids', ?_, rfl, List.prefix_refl _, ?_, satS_mono hp (hk q n)⟩
    · unfold execOp
      simp only [ho, resolve, invoke, builtin, Sem.run_bind, Sem.run_pure, Result.andThen_ok, List.map_toArray, List.map_cons, List.map_nil, ← hx', ← hy', hrun]
      rfl
    · simpa using hI2
  | some a =>
    have hnews : ∀ k u, nv[k]? = some u → w.cell? (a.add k) = some u := fun k u hu => by
      obtain ⟨a', h, h'⟩ := hcell ids' w hp hI k u hu
      simp at h; subst h; exact h'
    obtain ⟨v', w', hrun, hown', hg, hnil', hbl⟩ := run_append_own_at (P := c.P) w 0 t o.type bj.ty it z size bytes hul hit hz hsz hby hzs hs0 (.slice (some ⟨q, 0, none⟩) n n) n xs hown a m mc nv hlen hnews h1 (by unfold maxLen; omega) hbytes (Nat.zero_le _)
    have hform : ∃ g cap', v' = .slice (some ⟨g, 0, none⟩) (n + m) cap' := by
      rcases hown'.2 with ⟨_, h0⟩ | ⟨g, cap', cur, e1, _⟩
      · omega
      · exact ⟨g, cap', e1⟩
    obtain ⟨g, cap', rfl⟩ := hform
    have hgl : ∀ x ∈ (rowRes bj.ty size (some ⟨g, 0, none⟩) (n + m) cap' (xs ++ nv)).fp, x < w'.heap.size := by
      intro x hx
      simp [rowRes] at hx
      subst hx
      exact (hown'.lt x rfl).2
    refine ⟨_, w', .raw (.slice (some ⟨g, 0, none⟩) (n + m) cap'), setCells mem j [.res (rowRes bj.ty size (some ⟨g, 0, none⟩) (n + m) cap' (xs ++ nv))], ids', ?_, rfl, List.prefix_refl _, ?_, satS_mono hp (hk g cap')⟩
    · unfold execOp
      simp only [ho, resolve, invoke, builtin, Sem.run_bind, Sem.run_pure, Result.andThen_ok, List.map_toArray, List.map_cons, List.map_nil, ← hx', ← hy', hrun]
    · rw [← hset]
      refine hI2.updR j hb2 rfl hrw ?_ hown' ?_ hgl
      · refine ⟨hg.os, hg.tape, hg.output, hg.size, fun k hk hkn => hg.block k hk ?_, run_drawn _ _ hrun⟩
        simp [rowRes, Value.ownBlock] at hkn ⊢; exact hkn
      · intro x hx
        simp [rowRes] at hx
        subst hx
        rcases hbl with h | h
        · simp [Value.ownBlock] at h; simp [rowRes, h]
        · simp [Value.ownBlock] at h; omega

/-- A part of two is shrunk to its first. -/
theorem Inv.fst (hI : Inv c w ids mem) (i : Nat) {b : SBlk} {ρ σ : Res} (hb : nth mem i = some b) (hr : resOf b = some (ρ.both σ)) (hrw : b.rw = true) : Inv c w ids (setCells mem i [.res ρ]) :=
  hI.updR (w' := w) (ρ' := ρ) i hb hr hrw ((Frm.refl [] w).mono (by simp)) (hI.res i hb hr).1 (fun x hx => .inl (by simp [Res.both, hx])) (fun x hx => hI.resLt i hb hr x (by simp [Res.both, hx]))
end
end
end Go.Proofs.YtglafgpjgkphkaaGreatDoor
