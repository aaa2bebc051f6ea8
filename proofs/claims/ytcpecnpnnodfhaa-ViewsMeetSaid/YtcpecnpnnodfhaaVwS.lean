/- slices.SortFunc at views, by names: rows; the order. -/
import Derived.Test.YtcpecnpnnodfhaaBnVb
import Derived.Test.YtcpecnpnnodfhaaBnU
import Derived.Test.YtcpecnpnnodfhaaGrow
import Derived.Test.YtcpecnpnnodfhaaVwZ
set_option maxRecDepth 100000
set_option linter.unusedSimpArgs false
set_option linter.unusedVariables false
set_option maxHeartbeats 8000000
namespace Go.Proofs.Ytcpecnpnnodfhaa
open Go.RowKit
open Go.Shelf
open Go.Sort

/-! ### Rows of views -/
theorem rowRes_lt {e : TypeId} {size n cap : Nat} {o : Option Addr} {xs : List Value} {w : World} (h : (rowRes e size o n cap xs).R w) : ∀ x ∈ (rowRes e size o n cap xs).fp, x < w.heap.size := by
  have h' : w.ownsRow 0 e size (.slice o n cap) n xs := h
  intro x hx
  cases o with
  | none => simp [rowRes] at hx
  | some a =>
    simp [rowRes] at hx
    subst hx
    exact (h'.lt _ rfl).2
abbrev vRow (o : Option Addr) (n cap : Nat) (xs : List Value) : Res := rowRes 49 7 o n cap xs
abbrev vws (L : List Vw) : List Value := L.flatMap Vw.l
theorem vws_len (L : List Vw) : (vws L).length = L.length * 7 := flat_len vw_len L
theorem vws_one (L : List Vw) : ∀ u ∈ vws L, u.oneCell' = true := by
  intro u hu
  obtain ⟨t, _, ht⟩ := List.mem_flatMap.1 hu
  simp at ht
  rcases ht with rfl | rfl | rfl | rfl | rfl | rfl | rfl <;> rfl
theorem vws_app (L M : List Vw) : vws (L ++ M) = vws L ++ vws M := List.flatMap_append
theorem vws_add (L : List Vw) (t : Vw) : vws L ++ t.l = vws (L ++ [t]) := by rw [vws_app]; simp
theorem infoVw : (Try.prog.info? 49).map (fun i => (i.zero, i.size, i.bytes)) = some (some Vw.zero.val, 7, 64) := by kernel_rfl
theorem elemVw : sliceElem Try.prog 34 = some 49 := by kernel_rfl

/-! ### A row as the sort sees it -/
instance : Inhabited Vw := ⟨Vw.zero⟩
theorem flatK_vws (L : List Vw) : (flatK Vw.l 7 L.toArray).toList = vws L := by
  apply List.ext_getElem?
  intro t
  by_cases ht : t < L.length * 7
  · have hi : t / 7 < L.length := by omega
    have hx : L[t / 7]? = some L[t / 7] := List.getElem?_eq_getElem hi
    have h := flat_at (f := Vw.l) vw_len hx (j := t % 7) (Nat.mod_lt _ (by omega))
    rw [show t / 7 * 7 + t % 7 = t by omega] at h
    have hl : t % 7 < (L[t / 7]).l.length := Nat.mod_lt _ (by omega)
    show _ = (L.flatMap Vw.l)[t]?
    rw [h]
    unfold flatK
    simp only [Array.toList_map, Array.toList_range, List.getElem?_map, List.size_toArray]
    rw [List.getElem?_range ht]
    simp only [Option.map_some]
    rw [List.getElem?_eq_getElem hl]
    congr 1
    have e1 : L.toArray[t / 7]! = L[t / 7] := by simp [hi]
    rw [e1]
    exact getElem!_pos (L[t / 7]).l (t % 7) hl
  · rw [List.getElem?_eq_none (by simp; omega), List.getElem?_eq_none (by rw [vws_len]; omega)]
theorem row_holds {g n cap : Nat} {L : List Vw} {w : World} (h : (vRow (some ⟨g, 0, none⟩) n cap (vws L)).R w) : HoldsK Vw.l 7 w g 0 L.toArray := by
  have h' : w.ownsRow 0 49 7 (.slice (some ⟨g, 0, none⟩) n cap) n (vws L) := h
  obtain ⟨hlen, hh⟩ := h'
  rcases hh with ⟨h2, _⟩ | ⟨g', cap', cur, h2, hb, hg, hnc, hcm, hcs, htake⟩
  · simp at h2
  simp only [Value.slice.injEq, Option.some.injEq, Addr.mk.injEq, and_true, true_and] at h2
  obtain ⟨rfl, rfl⟩ := h2
  intro j hj
  have hj' : j < (vws L).length := by rw [← flatK_vws]; simpa using hj
  refine ⟨?_, ?_⟩
  · have hc : (vws L)[j]? = some ((flatK Vw.l 7 L.toArray)[j]!) := by
      rw [← flatK_vws]
      rw [Array.getElem?_toList, Array.getElem?_eq_getElem hj, getElem!_pos (flatK Vw.l 7 L.toArray) j hj]
    have := rowRes_cell (a := ⟨g, 0, none⟩) h hc
    rw [add_mk] at this
    simpa using this
  · simp only [World.frozen?, hg]
    simp
theorem sort_row {g n cap : Nat} {L L' : List Vw} {w : World} {m : Nat} {os : Array Obj} (h : (vRow (some ⟨g, 0, none⟩) n cap (vws L)).R w) (hl : L'.length = L.length) :
    Frm [g] w (sortWorldK Vw.l 7 w g 0 m L'.toArray os) ∧ (vRow (some ⟨g, 0, none⟩) n cap (vws L')).R (sortWorldK Vw.l 7 w g 0 m L'.toArray os) := by
  have h' : w.ownsRow 0 49 7 (.slice (some ⟨g, 0, none⟩) n cap) n (vws L) := h
  obtain ⟨hlen, hh⟩ := h'
  rcases hh with ⟨h2, _⟩ | ⟨g', cap', cur, h2, hb, hg, hnc, hcm, hcs, htake⟩
  · simp at h2
  simp only [Value.slice.injEq, Option.some.injEq, Addr.mk.injEq, and_true, true_and] at h2
  obtain ⟨rfl, rfl⟩ := h2
  have hgl : g < w.heap.size := (Array.getElem?_eq_some_iff.1 hg).1
  have hF : (flatK Vw.l 7 L'.toArray).size = n * 7 := by
    rw [size_flatK]; simp only [List.size_toArray, hl]
    have := vws_len L
    omega
  have hcl : n * 7 ≤ cur.size := by rw [hcs]; exact Nat.mul_le_mul_right _ hnc
  have hsz : w.heap.size ≤ (sortWorldK Vw.l 7 w g 0 m L'.toArray os).heap.size := by
    unfold sortWorldK putRowK putRow mapBlock grow
    simp [Sort.ahead]
  have hold : ∀ k, k < w.heap.size → (sortWorldK Vw.l 7 w g 0 m L'.toArray os).heap[k]? = (w.heap.modify g (onCells (putCells id 0 (flatK Vw.l 7 L'.toArray))))[k]? := by
    intro k hk
    unfold sortWorldK putRowK putRow mapBlock grow
    simp only [Sort.ahead]
    rw [Array.getElem?_append_left (by simpa using hk)]
  refine ⟨⟨rfl, rfl, rfl, hsz, fun k hk hn => ?_, Nat.le_add_right _ _⟩, ?_⟩
  · rw [hold k hk, Array.getElem?_modify, if_neg (by simp at hn; exact fun e => hn e.symm)]
  · have hblk : (sortWorldK Vw.l 7 w g 0 m L'.toArray os).heap[g]? = some (.cells (putCells id 0 (flatK Vw.l 7 L'.toArray) cur) 49 (0, 0)) := by
      rw [hold g hgl, Array.getElem?_modify, if_pos rfl, hg]
      rfl
    refine ⟨by rw [vws_len, hl]; have := vws_len L; omega, .inr ⟨g, cap, _, rfl, hb, hblk, hnc, hcm, by simp [putCells, hcs], ?_⟩⟩
    rw [← flatK_vws]
    apply List.ext_getElem?
    intro t
    rw [List.getElem?_take]
    by_cases ht : t < n * 7
    · rw [if_pos ht, Array.getElem?_toList, Array.getElem?_toList, Array.getElem?_eq_getElem (xs := flatK Vw.l 7 L'.toArray) (by rw [hF]; exact ht)]
      unfold putCells
      rw [Array.getElem?_mapIdx, Array.getElem?_eq_getElem (by omega)]
      simp only [Option.map_some, Nat.zero_le, Nat.zero_add, true_and, Nat.sub_zero, id]
      rw [if_pos (by rw [hF]; exact ht), getElem!_pos (flatK Vw.l 7 L'.toArray) t (by rw [hF]; exact ht)]
    · rw [if_neg ht, List.getElem?_eq_none (by simp only [Array.length_toList, hF]; omega)]

/-! ### The order -/
def cmpS (x y : ByteArray) : Int := if ltS x y then -1 else if ltS y x then 1 else 0
abbrev cmpV (a b : Vw) : Int := cmpS a.nm b.nm
theorem nanS_ok (x : ByteArray) (w : World) : Calls Try.prog 47 #[.string x] w fun e w' => e = .returned (.bool false) ∧ Frm [] w w' := by
  have hI := Inv.nil (P := Try.prog) (N := 6) (S := []) (os := []) w
  refine calls_sm (cx 6 [] [] w) (vals := [.str x]) mixed Try.func47 rfl rfl rfl hI rfl (st rfl ?_); conv => arg 3; whnf
  refine gw ?_
  refine n_ret0 rfl rfl fun ids' w' hp hI' => ⟨ret_bool ?_, hI'.frm⟩
  simp
theorem cmpS_ok (x y : ByteArray) (w : World) : Calls Try.prog 31 #[.string x, .string y] w fun e w' => e = .returned (.int .i64 (cmpS x y)) ∧ Frm [] w w' := by
  have hI := Inv.nil (P := Try.prog) (N := 20) (S := []) (os := []) w
  refine calls_sm (cx 20 [] [] w) (vals := [.str x, .str y]) mixed Try.func31 rfl rfl rfl hI rfl (st rfl ?_); conv => arg 3; whnf
  refine gw ?_
  refine n_sameP (.bool false) rfl rfl rfl (fun _ w1 hp1 hI1 => nanS_ok x w1) ?_; (refine gs ?_)
  refine gw ?_
  refine n_sameP (.bool false) rfl rfl rfl (fun _ w1 hp1 hI1 => nanS_ok y w1) ?_; (refine gs ?_)
  cases h1 : ltS x y with
  | true =>
    have h1' : Op.bytesLess x.toList y.toList = true := h1
    (repeat ((first | refine n_must rfl ?_ | refine n_chk (drawF_ok (by decide +kernel)) ?_ | refine n_same rfl ?_ | ((first | refine n_must ?_ ?_ | refine n_brT ?_ ?_); (focus (first | (simp [h1']; done) | (simp [h1']; omega) | (simp only [h1']; simp; done)))) | (refine n_brF ?_ ?_; (focus (first | (simp [h1']; done) | (simp [h1']; omega) | (simp only [h1']; simp; done)))) | refine n_must (by (with_reducible refine and_shape ?_) <;> kernel_rfl) ?_); (refine gs ?_)))
    refine n_ret0 rfl rfl fun ids' w' hp hI' => ⟨ret_int ?_, hI'.frm⟩
    simp [cmpS, h1]
  | false =>
    have h1' : Op.bytesLess x.toList y.toList = false := h1
    have hle : (x.toList == y.toList) = !ltS y x := by
      have := leS_eq x y
      rw [h1'] at this
      simpa using this
    cases h2 : ltS y x with
    | true =>
      rw [h2] at hle
      have hne : ¬ x.toList = y.toList := by simpa using hle
      (repeat ((first | refine n_must rfl ?_ | refine n_chk (drawF_ok (by decide +kernel)) ?_ | refine n_same rfl ?_ | ((first | refine n_must ?_ ?_ | refine n_brT ?_ ?_); (focus (first | (simp [h1', hne]; done) | (simp [h1', hne]; omega) | (simp only [h1', hne]; simp; done)))) | (refine n_brF ?_ ?_; (focus (first | (simp [h1', hne]; done) | (simp [h1', hne]; omega) | (simp only [h1', hne]; simp; done)))) | refine n_must (by (with_reducible refine and_shape ?_) <;> kernel_rfl) ?_); (refine gs ?_)))
      refine n_ret0 rfl rfl fun ids' w' hp hI' => ⟨ret_int ?_, hI'.frm⟩
      simp [cmpS, h1, h2]
    | false =>
      rw [h2] at hle
      have he : x.toList = y.toList := by simpa using hle
      rw [he] at h1'
      (repeat ((first | refine n_must rfl ?_ | refine n_chk (drawF_ok (by decide +kernel)) ?_ | refine n_same rfl ?_ | ((first | refine n_must ?_ ?_ | refine n_brT ?_ ?_); (focus (first | (simp [h1', he]; done) | (simp [h1', he]; omega) | (simp only [h1', he]; simp; done)))) | (refine n_brF ?_ ?_; (focus (first | (simp [h1', he]; done) | (simp [h1', he]; omega) | (simp only [h1', he]; simp; done)))) | refine n_must (by (with_reducible refine and_shape ?_) <;> kernel_rfl) ?_); (refine gs ?_)))
      refine n_ret0 rfl rfl fun ids' w' hp hI' => ⟨ret_int ?_, hI'.frm⟩
      simp [cmpS, h1, h2]
theorem dig1_ok (a b : Vw) (w : World) : Calls Try.prog 30 #[a.val, b.val] w fun e w' => e = .returned (.int .i64 (cmpV a b)) ∧ Frm [] w w' := by
  have hI := Inv.nil (P := Try.prog) (N := 10) (S := []) (os := []) w
  refine calls_sm (cx 10 [] [] w) (vals := [.agg a.sv, .agg b.sv]) mixed Try.func30 rfl rfl rfl hI rfl (st rfl ?_); conv => arg 3; whnf
  refine gw ?_
  refine n_sameP (.int .i64 (cmpS a.nm b.nm)) rfl rfl rfl (fun _ w1 hp1 hI1 => cmpS_ok _ _ w1) ?_; (refine gs ?_)
  refine gw ?_
  exact n_ret0 rfl rfl fun ids' w' hp hI' => ⟨rfl, hI'.frm⟩
theorem ltV (a b : Vw) : ltOf cmpV a b = ltS a.nm b.nm := by
  unfold ltOf cmpV cmpS
  cases h1 : ltS a.nm b.nm <;> cases h2 : ltS b.nm a.nm <;> simp
theorem swoV : SWO (ltOf cmpV) where
  irrefl x := by rw [ltV]; exact ltS_irrefl _
  trans x y z h1 h2 := by rw [ltV] at h1 h2 ⊢; exact ltS_trans h1 h2
  ntrans x y z h1 h2 := by
    rw [ltV] at h1 h2 ⊢
    cases h3 : ltS x.nm z.nm with
    | false => rfl
    | true =>
      by_cases e : y.nm = z.nm
      · rw [← e, h1] at h3; cases h3
      · have := ltS_trans h3 (ltS_total h2 e)
        rw [h1] at this; cases this
theorem laysV (g n : Nat) (w : World) : CmpLays Try.prog 30 #[] Vw.l 7 cmpV g 0 n w :=
  fun m os dk _ x y => (dig1_ok x y _).mono fun e w' ⟨he, hf⟩ => ⟨he, frm_grow hf⟩
theorem sortV_ok {g n cap : Nat} {L : List Vw} {w : World} (hl : L.length = n) (hn : n ≤ 1000000) (hnd : L.Pairwise fun a b => a.nm ≠ b.nm) (hR : (vRow (some ⟨g, 0, none⟩) n cap (vws L)).R w) :
    Calls Try.prog 29 #[.slice (some ⟨g, 0, none⟩) n cap, .func (.func 30) #[] #[]] w fun e w' => ∃ L' : List Vw, e = .returned (.tuple #[]) ∧ (L'.Perm L ∧ L'.Pairwise fun a b => ltS a.nm b.nm = true) ∧ Frm [g] w w' ∧ (vRow (some ⟨g, 0, none⟩) n cap (vws L')).R w' := by
  have eg : ∀ args w, (callFunc 30 args).run Try.prog w = .ok (.enter 30 args) w := enters_of Try.func30 (by kernel_rfl) rfl
  have hcon := AnyQ.slices_SortFunc sortVw 7 Try.isAgg49 Try.sizeOf49 Vw.l vw_len (fun x v hv => by simp at hv; rcases hv with rfl | rfl | rfl | rfl | rfl | rfl | rfl <;> rfl) cmpV swoV 30 #[] g 0 cap L.toArray w eg (laysV g L.toArray.size w) (row_holds hR) (rowRes_lt hR g (by simp [rowRes])) (by simp; omega)
  change Calls Try.prog 29 _ _ _ at hcon
  have hs : L.toArray.size = n := by simp [hl]
  rw [hs] at hcon
  refine hcon.mono ?_
  rintro e w' ⟨he, d', m, os, ⟨hp1, hp2, hp3⟩, hso, rfl⟩
  have hpl : d'.toList.Perm L := by
    have h1 : (d'.extract 0 n).toList = d'.toList := by rw [show n = d'.size by rw [hp1, hs], Array.extract_size]
    have h2 : (L.toArray.extract 0 n).toList = L := by rw [← hs, Array.extract_size]
    rw [h1, h2] at hp3
    exact hp3
  have hlen : d'.toList.length = L.length := hpl.length_eq
  have hnd' : d'.toList.Pairwise fun a b => a.nm ≠ b.nm := (hpl.pairwise_iff (fun h => Ne.symm h)).2 hnd
  obtain ⟨hf, hR'⟩ := sort_row (m := m) (os := os) hR hlen
  refine ⟨d'.toList, he, ⟨hpl, ?_⟩, hf, hR'⟩
  rw [List.pairwise_iff_getElem] at hnd' ⊢
  intro i j hi hj hij
  have h1 := hso i j (Nat.zero_le _) hij (by omega)
  have h2 := hnd' i j hi hj hij
  have e1 : d'[i]! = d'.toList[i] := by simp at hi; simp [hi]
  have e2 : d'[j]! = d'.toList[j] := by simp at hj; simp [hj]
  rw [e1, e2, ltV] at h1
  exact ltS_total h1 (fun e => h2 e.symm)
end Go.Proofs.Ytcpecnpnnodfhaa
