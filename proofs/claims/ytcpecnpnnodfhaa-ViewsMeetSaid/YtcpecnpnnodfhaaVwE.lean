/- Package views: About, Known. -/
import Derived.Test.YtcpecnpnnodfhaaVwD
set_option maxRecDepth 100000
set_option linter.unusedSimpArgs false
set_option linter.unusedVariables false
set_option maxHeartbeats 4000000
namespace Go.Proofs.Ytcpecnpnnodfhaa
open Go.RowKit

theorem wr_add (a b : Int) : wr (wr a + b) = wr (a + b) := by
  unfold wr IntKind.wrap
  simp [IntKind.bits, IntKind.signed]
  repeat' split
  all_goals omega
def litB (b : Bool) : SV := match b with | true => .lit true | false => .lit false

/-! ### About -/
def aboutD (V : List ((Int × ByteArray) × Vw)) (nm : ByteArray) : Int := (V.map fun p => if p.1.2 = nm then p.2.d else 0).sum
def aboutN (V : List ((Int × ByteArray) × Vw)) (nm : ByteArray) : Int := (V.map fun p => if p.1.2 = nm then 1 else 0).sum
def nmOfK : Value → ByteArray
  | .agg cs => match (cs[1]? : Option Value) with | some (Value.string s) => s | _ => default
  | _ => default
def dOfV : Value → Int
  | .agg cs => match (cs[4]? : Option Value) with | some (Value.int _ n) => n | _ => 0
  | _ => 0
def fD (nm : ByteArray) (x : MapEntry) : Int := if nmOfK x.key = nm then dOfV x.val else 0
def fN (nm : ByteArray) (x : MapEntry) : Int := if nmOfK x.key = nm then 1 else 0
theorem entries_sum {es : Array MapEntry} {V : List ((Int × ByteArray) × Vw)} (h : es.toList.map (fun x => (x.key, x.val)) = V.map (fun p => (keyE.ek p.1, vwV p.2))) (nm : ByteArray) : (es.toList.map (fD nm)).sum = aboutD V nm ∧ (es.toList.map (fN nm)).sum = aboutN V nm := by
  have h1 := congrArg (List.map fun p : Value × Value => if nmOfK p.1 = nm then dOfV p.2 else 0) h
  have h2 := congrArg (List.map fun p : Value × Value => if nmOfK p.1 = nm then (1 : Int) else 0) h
  simp only [List.map_map] at h1 h2
  exact ⟨congrArg List.sum h1, congrArg List.sum h2⟩
theorem seenN_nonneg (nm : ByteArray) (es : Array MapEntry) (seen : Array Nat) : 0 ≤ seenSum (fN nm) es seen := by
  unfold seenSum
  induction es.toList with
  | nil => simp
  | cons a l ih =>
    simp only [List.map_cons, List.sum_cons]
    have : 0 ≤ (if seen.contains a.born = true then fN nm a else 0) := by unfold fN; split <;> first | split <;> omega | omega
    omega

theorem About_ok {p mb nb : Nat} {s : Vs} {w : World} (hR : (viewsRes p mb nb s).R w) (nm : ByteArray) (hnm : nm.size ≤ maxLen) :
    Calls Try.prog 17 #[pV p, .string nm] w fun e w' => e = .returned (.tuple #[.int .i64 (wr (aboutD s.V nm)), .bool (decide (0 < aboutN s.V nm))]) ∧ Frm [] w w' := by
  have hI : Inv (cx 31 [] [] w) w [0] [⟨84, [.res (viewsRes p mb nb s)], false⟩] := (Inv.nil w).consR (by simp) hR (viewsRes_lt hR) (by simp)
  refine calls_sm (cx 31 [] [] w) (vals := [.raw (pV p), .str nm]) mixed Try.func17 rfl rfl rfl hI rfl (st rfl ?_); conv => arg 3; whnf
  refine gg ?_
  refine n_ldI (.raw (.map (some mb))) rfl rfl (fun _ w1 _ hI1 => load_cell aggVMap (blk_at (hI1.res 0 rfl rfl).1 (j := 2) rfl rfl)) ?_
  (refine gs ?_)
  refine gg ?_
  refine n_range (E := keyE) (ev' := vwV) 0 (ρ := viewsRes p mb nb s) s.V 0 rfl rfl rfl rfl rfl rfl rfl (by simp [viewsRes]) (fun w h => h.2.1) ?_
  intro es clock it hst hes hit
  (refine gs ?_)
  have hpair : ∀ x ∈ es.toList, ∃ r n v, x.key = .agg #[.int .i64 r, .string n] ∧ x.val = Vw.val v := by
    intro x hx
    have := List.mem_map_of_mem (f := fun x : MapEntry => (x.key, x.val)) hx
    rw [hes] at this
    obtain ⟨⟨⟨r, n⟩, v⟩, h1, h2⟩ := List.mem_map.1 this
    simp only [Prod.mk.injEq] at h2
    exact ⟨r, n, v, h2.1.symm, h2.2.symm⟩
  obtain ⟨hsD, hsN⟩ := entries_sum hes nm
  refine n_loop (σ := Array Nat × Bool) (fun t => [(0, .raw (pV p)), (1, .str nm), (6, .int .i64 (wr (seenSum (fD nm) es t.1))), (7, litB t.2), (14, .raw (pV it))]) (fun t => [⟨84, [.res (mapAt (viewsRes p mb nb s) mb es clock (by simp [viewsRes]))], false⟩, ⟨0, [.res (iterRes it mb clock t.1 clock)], true⟩]) (fun t => t.2 = decide (0 < seenSum (fN nm) es t.1)) (fun t => leftN es t.1) (#[], false) mixed (by simp [seenSum_none]) (fun _ _ => rfl) rfl ?_ (fun t _ => ⟨by obtain ⟨_, b⟩ := t; cases b <;> (repeat (first | exact trivial | refine ⟨⟨_, rfl⟩, ?_⟩)), by (repeat (first | exact trivial | refine ⟨⟨_, rfl⟩, ?_⟩))⟩) fun t hJ => ?_
  · exact (by (repeat (first | exact trivial | refine ⟨⟨rfl, rfl⟩, ?_⟩ | refine ⟨⟨rfl, by rw [seenSum_none]; rfl⟩, ?_⟩)))
  obtain ⟨seen, b⟩ := t
  dsimp only at hJ ⊢
  cases b
  · (refine gs ?_)
    refine n_next 0 1 (es := es) (clock := clock) (ρ := viewsRes p mb nb s) rfl rfl hst rfl rfl rfl rfl rfl rfl (fun hall => ?_) (fun x1 hx1 hns => ?_)
    · (refine gs ?_)
      refine gg ?_
      refine n_exit rfl ?_
      (refine gs ?_)
      refine gg ?_
      rw [← hsD, ← hsN, ← seenSum_all (f := fD nm) hall, ← seenSum_all (f := fN nm) hall, ← hJ]
      exact n_ret0 rfl rfl fun ids' w' hp hI' => ⟨rfl, hI'.frm⟩
    · obtain ⟨r, n, v, hk, hv⟩ := hpair x1 hx1
      have pD := seenSum_push (f := fD nm) hst hx1 hns
      have pN := seenSum_push (f := fN nm) hst hx1 hns
      have h0 := seenN_nonneg nm es seen
      have eD : fD nm x1 = if n = nm then v.d else 0 := by unfold fD; rw [hk, hv]; rfl
      have eN : fN nm x1 = if n = nm then 1 else 0 := by unfold fN; rw [hk]; rfl
      (refine gs ?_)
      refine gg ?_
      refine n_entry 0 1 (es := es) (ρ := viewsRes p mb nb s) x1 (.tup [.agg [.int .i64 r, .str n], .agg v.sv]) rfl rfl hst hx1 rfl rfl rfl rfl rfl (by rw [hk, hv]; rfl) ?_
      (refine gs ?_)
      refine gg ?_
      by_cases hn : n = nm
      · rw [if_pos hn] at eD eN
        rw [eD] at pD
        rw [eN] at pN
        have eS : IntKind.i64.wrap (wr (seenSum (fD nm) es seen) + v.d) = wr (seenSum (fD nm) es (seen.push x1.born)) := by rw [pD]; exact wr_add _ _
        refine n_brT (by rw [bytes_eq]; simp [hn]) ?_
        (refine gs ?_)
        refine gw ?_
        exact n_again ⟨(seen.push x1.born, true), by dsimp only; rw [pN]; symm; exact decide_eq_true (by omega), leftN_lt hx1 hns, (by (repeat (first | exact trivial | refine ⟨⟨rfl, rfl⟩, ?_⟩ | refine ⟨⟨rfl, congrArg (SV.int .i64) eS⟩, ?_⟩))), ⟨_, rfl⟩⟩
      · rw [if_neg hn] at eD eN
        rw [eD, Int.add_zero] at pD
        rw [eN, Int.add_zero] at pN
        refine n_brF (by rw [bytes_eq]; simp [hn]) ?_
        (refine gs ?_)
        refine gw ?_
        exact n_again ⟨(seen.push x1.born, false), by dsimp only; rw [pN]; exact hJ, leftN_lt hx1 hns, (by (repeat (first | exact trivial | refine ⟨⟨rfl, rfl⟩, ?_⟩ | refine ⟨⟨rfl, congrArg (fun q : Int => SV.int .i64 (wr q)) pD.symm⟩, ?_⟩))), ⟨_, rfl⟩⟩
  · (refine gs ?_)
    refine n_next 0 1 (es := es) (clock := clock) (ρ := viewsRes p mb nb s) rfl rfl hst rfl rfl rfl rfl rfl rfl (fun hall => ?_) (fun x1 hx1 hns => ?_)
    · (refine gs ?_)
      refine gg ?_
      refine n_exit rfl ?_
      (refine gs ?_)
      refine gg ?_
      rw [← hsD, ← hsN, ← seenSum_all (f := fD nm) hall, ← seenSum_all (f := fN nm) hall, ← hJ]
      exact n_ret0 rfl rfl fun ids' w' hp hI' => ⟨rfl, hI'.frm⟩
    · obtain ⟨r, n, v, hk, hv⟩ := hpair x1 hx1
      have pD := seenSum_push (f := fD nm) hst hx1 hns
      have pN := seenSum_push (f := fN nm) hst hx1 hns
      have h0 := seenN_nonneg nm es seen
      have eD : fD nm x1 = if n = nm then v.d else 0 := by unfold fD; rw [hk, hv]; rfl
      have eN : fN nm x1 = if n = nm then 1 else 0 := by unfold fN; rw [hk]; rfl
      (refine gs ?_)
      refine gg ?_
      refine n_entry 0 1 (es := es) (ρ := viewsRes p mb nb s) x1 (.tup [.agg [.int .i64 r, .str n], .agg v.sv]) rfl rfl hst hx1 rfl rfl rfl rfl rfl (by rw [hk, hv]; rfl) ?_
      (refine gs ?_)
      refine gg ?_
      by_cases hn : n = nm
      · rw [if_pos hn] at eD eN
        rw [eD] at pD
        rw [eN] at pN
        have eS : IntKind.i64.wrap (wr (seenSum (fD nm) es seen) + v.d) = wr (seenSum (fD nm) es (seen.push x1.born)) := by rw [pD]; exact wr_add _ _
        refine n_brT (by rw [bytes_eq]; simp [hn]) ?_
        (refine gs ?_)
        refine gw ?_
        exact n_again ⟨(seen.push x1.born, true), by dsimp only; rw [pN]; symm; exact decide_eq_true (by omega), leftN_lt hx1 hns, (by (repeat (first | exact trivial | refine ⟨⟨rfl, rfl⟩, ?_⟩ | refine ⟨⟨rfl, congrArg (SV.int .i64) eS⟩, ?_⟩))), ⟨_, rfl⟩⟩
      · rw [if_neg hn] at eD eN
        rw [eD, Int.add_zero] at pD
        rw [eN, Int.add_zero] at pN
        refine n_brF (by rw [bytes_eq]; simp [hn]) ?_
        (refine gs ?_)
        refine gw ?_
        exact n_again ⟨(seen.push x1.born, true), by dsimp only; rw [pN]; exact hJ, leftN_lt hx1 hns, (by (repeat (first | exact trivial | refine ⟨⟨rfl, rfl⟩, ?_⟩ | refine ⟨⟨rfl, congrArg (fun q : Int => SV.int .i64 (wr q)) pD.symm⟩, ?_⟩))), ⟨_, rfl⟩⟩

/-! ### Known -/
def knownF (V : List ((Int × ByteArray) × Vw)) (nm : ByteArray) (i : Nat) : Int × Int := (((mget V ((i : Int), nm)).getD Vw.zero).d, ((mget V ((i : Int), nm)).getD Vw.zero).u)
def knownL (V : List ((Int × ByteArray) × Vw)) (nm : ByteArray) (n : Nat) : List (Int × Int) := (List.range n).map (knownF V nm)
abbrev rtL (x : Int × Int) : List Value := [.int .i64 x.1, .int .i64 x.2]
theorem rt_len (x : Int × Int) : (rtL x).length = 2 := rfl
theorem rtInfo : (Try.prog.info? 47).map (fun i => (i.zero, i.size, i.bytes)) = some (some (.agg #[.int .i64 0, .int .i64 0]), 2, 16) := by kernel_rfl
theorem sizeRt : sizeB Try.prog 47 = some 2 := by kernel_rfl
/-- What is known as far as the first i replicas. -/
def knownT (V : List ((Int × ByteArray) × Vw)) (nm : ByteArray) (n i : Nat) : List (Int × Int) := (List.range n).map fun j => if j < i then knownF V nm j else (0, 0)
theorem knownT_0 (V : List ((Int × ByteArray) × Vw)) (nm : ByteArray) (n : Nat) : (knownT V nm n 0).flatMap rtL = (List.replicate n [Value.int .i64 0, Value.int .i64 0]).flatten := by
  unfold knownT
  simp only [Nat.not_lt_zero, if_false, List.flatMap_map]
  induction n with
  | zero => rfl
  | succ n ih => rw [List.range_succ, List.replicate_succ']; simp [List.flatMap_append, ih]
theorem knownT_n (V : List ((Int × ByteArray) × Vw)) (nm : ByteArray) (n : Nat) : knownT V nm n n = knownL V nm n := by
  unfold knownT knownL
  exact List.map_congr_left fun j hj => by rw [if_pos (List.mem_range.1 hj)]
theorem knownT_set (V : List ((Int × ByteArray) × Vw)) (nm : ByteArray) (n i : Nat) (hi : i < n) : (knownT V nm n i).set i (knownF V nm i) = knownT V nm n (i + 1) := by
  unfold knownT
  apply List.ext_getElem
  · simp
  · intro j h1 h2
    simp only [List.getElem_set, List.getElem_map, List.getElem_range]
    by_cases e : i = j
    · subst e; simp
    · rw [if_neg e]
      by_cases h : j < i
      · rw [if_pos h, if_pos (by omega)]
      · rw [if_neg h, if_neg (by omega)]

theorem Known_ok {p mb nb : Nat} {s : Vs} {w : World} (hR : (viewsRes p mb nb s).R w) (hl : s.ns.length ≤ 1000) (nm : ByteArray) (hnm : nm.size ≤ maxLen) :
    Calls Try.prog 19 #[pV p, .string nm] w fun e w' => ∃ y : Nat, e = .returned (.slice (some ⟨y, 0, none⟩) s.ns.length s.ns.length) ∧ True ∧ FreshR w w' (cellsRes y ((knownL s.V nm s.ns.length).flatMap rtL) 47) := by
  obtain ⟨it, hit, hparts⟩ := Option.map_eq_some_iff.1 rtInfo
  simp only [Prod.mk.injEq] at hparts
  have hI : Inv (cx 31 [] [] w) w [0] [⟨84, [.res (viewsRes p mb nb s)], false⟩] := (Inv.nil w).consR (by simp) hR (viewsRes_lt hR) (by simp)
  generalize hn : s.ns.length = n at hl
  refine calls_sm (cx 31 [] [] w) (vals := [.raw (pV p), .str nm]) mixed Try.func19 rfl rfl rfl hI rfl (st rfl ?_); conv => arg 3; whnf
  refine gg ?_
  refine n_ldI (.int .i64 (n : Nat)) rfl rfl (fun _ w1 _ hI1 => load_cell aggInt (blk_at (hI1.res 0 rfl rfl).1 (j := 1) (by rw [← hn]; rfl) rfl)) ?_
  (refine gs ?_)
  refine gg ?_
  refine n_makeSlice (n := n) 47 rfl rfl rfl Try.underlying45 hit hparts.1 (by rw [hparts.2.1]; rfl) hparts.2.2 rfl rfl (by omega) (by omega) fun y hy => ?_
  (refine gs ?_)
  refine gg ?_
  rw [show (List.replicate n (Value.agg #[.int .i64 0, .int .i64 0]).cells.toList).flatten = (knownT s.V nm n 0).flatMap rtL from (knownT_0 s.V nm n).symm]
  refine n_loop (σ := Nat) (fun i => [(0, .raw (pV p)), (1, .str nm), (5, .raw (.slice (some ⟨y, 0, none⟩) n n)), (13, .int .i64 (n : Nat)), (14, .int .i64 (i : Nat))]) (fun i => [⟨84, [.res (viewsRes p mb nb s)], false⟩, ⟨47, [.res (cellsRes y ((knownT s.V nm n i).flatMap rtL) 47)], true⟩]) (fun i => i ≤ n) (fun i => n - i) 0 mixed (by omega) (fun _ _ => rfl) rfl (by (repeat (first | exact trivial | refine ⟨⟨rfl, rfl⟩, ?_⟩))) (fun s _ => ⟨by (repeat (first | exact trivial | refine ⟨⟨_, rfl⟩, ?_⟩)), by (repeat (first | exact trivial | refine ⟨⟨_, rfl⟩, ?_⟩))⟩) fun i hi => ?_
  (refine gs ?_)
  by_cases hlt : i < n
  · have ei : IntKind.i64.wrap ((i : Int) + 1) = ((i + 1 : Nat) : Int) := by rw [w64 (by omega) (by omega)]; simp
    have hkok : keyE.ok ((i : Int), nm) := ⟨by constructor <;> omega, hnm⟩
    have hlen : (knownT s.V nm n i).length = n := by simp [knownT]
    refine gw ?_
    refine n_ldI (.raw (.map (some mb))) rfl rfl (fun _ w1 _ hI1 => load_cell aggVMap (blk_at (hI1.res 0 rfl rfl).1 (j := 2) rfl rfl)) ?_
    (refine gs ?_)
    refine gw ?_
    refine n_lookup (E := keyE) (ev' := vwV) (b := mb) (kr := .agg [.int .i64 (i : Nat), .str nm]) (zr := .agg Vw.zero.sv) (z := Vw.zero.val) s.V ((i : Int), nm) (.agg ((mget s.V ((i : Int), nm)).getD Vw.zero).sv) keyK rfl rfl rfl rfl rfl rfl hkok rfl rfl (by rw [lkV]; rfl) (fun _ w1 _ hI1 => by exact (hI1.res 0 rfl rfl).2.1) ?_
    (refine gs ?_)
    refine gw ?_
    refine n_storeA (n := y) (off := i * 2) (k := 2) (l := (knownT s.V nm n i).flatMap rtL) (rv := .agg [.int .i64 (knownF s.V nm i).1, .int .i64 (knownF s.V nm i).2]) (v := .agg #[.int .i64 (knownF s.V nm i).1, .int .i64 (knownF s.V nm i).2]) 1 (cellsRes y ((knownT s.V nm n (i + 1)).flatMap rtL) 47) ((knownT s.V nm n (i + 1)).flatMap rtL) rfl rfl rfl (by rw [add_mk]; simp) rfl rfl sizeRt rfl rfl rfl rfl rfl (by simp [cellsRes]) (fun w h => h) (by rw [flat_len rt_len, hlen]; omega) (by rw [← knownT_set s.V nm n i hlt]; exact flat_set rt_len (by rw [hlen]; exact hlt)) (fun w w' h hf hb => hb) (by simp [cellsRes]) ?_
    (refine gs ?_)
    refine gw ?_
    exact n_again ⟨i + 1, by omega, by omega, (by (repeat (first | exact trivial | refine ⟨⟨rfl, rfl⟩, ?_⟩ | refine ⟨⟨rfl, congrArg (SV.int .i64) ei⟩, ?_⟩))), ⟨_, rfl⟩⟩
  · obtain rfl : i = n := by omega
    refine gw ?_
    refine n_exit rfl ?_
    (refine gs ?_)
    refine gw ?_
    rw [knownT_n]
    exact n_ret0 rfl rfl fun ids' w' hp hI' => ⟨y, rfl, trivial, hI'.frm, hI'.res 1 rfl rfl, hI'.res_new 1 rfl rfl rfl (by simp), hI'.resLt 1 rfl rfl⟩
end Go.Proofs.Ytcpecnpnnodfhaa
