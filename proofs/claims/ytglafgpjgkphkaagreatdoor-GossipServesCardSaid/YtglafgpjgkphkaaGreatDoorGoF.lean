/- The document's gossip: New, Need, Lacks, clear. -/
import Derived.Test.YtglafgpjgkphkaaGreatDoorGoC
set_option maxRecDepth 100000
set_option linter.unusedSimpArgs false
set_option linter.unusedVariables false
set_option maxHeartbeats 8000000
namespace Go.Proofs.YtglafgpjgkphkaaGreatDoor
open Go.RowKit

structure En where
  nm : ByteArray
  d : Int
  u : Int
  ov : Bool
abbrev enL (e : En) : List Value := [.string e.nm, .int .i64 e.d, .int .i64 e.u, .bool e.ov]
theorem en_len (e : En) : (enL e).length = 4 := rfl
structure Rg where
  me : Int
  n : Int
  All : List En
abbrev rgMem (o : Option Addr) (cap : Nat) (s : Rg) : Mem := [⟨115, [.int .i64 s.me, .int .i64 s.n, .raw (.slice o s.All.length cap)], true⟩, ⟨123, [.res (rowRes 123 4 o s.All.length cap (s.All.flatMap enL))], true⟩]
def rgRes (p : Nat) (o : Option Addr) (cap : Nat) (s : Rg) : Res := memRes [p, 0] (rgMem o cap s)
theorem rg_at {c : Ctx} {w1 : World} {ids' : List Nat} {mem' : Mem} (hI : Inv c w1 ids' mem') {p : Nat} {o : Option Addr} {cap : Nat} {s : Rg} {q1 q2 : Bool} (i : Nat) (h0 : nth mem' i = some ⟨115, [.int .i64 s.me, .int .i64 s.n, .raw (.slice o s.All.length cap)], q1⟩)
    (h1 : nth mem' (i + 1) = some ⟨123, [.res (rowRes 123 4 o s.All.length cap (s.All.flatMap enL))], q2⟩) (hp : ids'[i]? = some p) : (rgRes p o cap s).R w1 :=
  memRes_here hI [i, i + 1] (.blk h0 hp rfl rfl (.res h1 .nil (fun h => nomatch h)) (fun h => nomatch h)) (by simp)
theorem elemEn : sliceElem Tryz.prog 113 = some 123 := by kernel_rfl
theorem infoEn : (Tryz.prog.info? 123).map (fun i => (i.zero, i.size, i.bytes)) = some (some (.agg #[.string { data := #[] }, .int .i64 0, .int .i64 0, .bool false]), 4, 40) := by kernel_rfl
theorem aggBool : aggB Tryz.prog 4 = some false := by kernel_rfl
theorem sizeBool : sizeB Tryz.prog 4 = some 1 := by kernel_rfl

/-! ### New -/
theorem rgNew_bad {me n : Int} (h : newErr me n ≠ 0) (w : World) : Calls Tryz.prog 25 #[.int .i64 me, .int .i64 n] w fun e w' => e = .returned (.tuple #[.pointer none, .int .i64 (newErr me n)]) ∧ Frm [] w w' := by
  have hI := Inv.nil (P := Tryz.prog) (N := 23) (S := []) (os := []) w
  unfold newErr at h ⊢
  refine calls_sm (cx 23 [] [] w) (vals := [.int .i64 me, .int .i64 n]) mixed Tryz.func25 rfl rfl rfl hI rfl (st rfl ?_); conv => arg 3; whnf
  by_cases h1 : n < 2
  · (repeat ((first | refine n_must rfl ?_ | refine n_chk (drawF_ok (by decide +kernel)) ?_ | refine n_same rfl ?_ | ((first | refine n_must ?_ ?_ | refine n_brT ?_ ?_); (focus (first | (simp [h1]; done) | (simp [h1]; omega) | (simp only [h1]; simp; done)))) | (refine n_brF ?_ ?_; (focus (first | (simp [h1]; done) | (simp [h1]; omega) | (simp only [h1]; simp; done)))) | refine n_must (by (with_reducible refine and_shape ?_) <;> kernel_rfl) ?_); (refine gs ?_)))
    rw [if_pos (.inl h1)]
    exact n_ret0 rfl rfl fun ids' w' hp hI' => ⟨rfl, hI'.frm⟩
  by_cases h2 : 16 < n
  · (repeat ((first | refine n_must rfl ?_ | refine n_chk (drawF_ok (by decide +kernel)) ?_ | refine n_same rfl ?_ | ((first | refine n_must ?_ ?_ | refine n_brT ?_ ?_); (focus (first | (simp [h1, h2]; done) | (simp [h1, h2]; omega) | (simp only [h1, h2]; simp; done)))) | (refine n_brF ?_ ?_; (focus (first | (simp [h1, h2]; done) | (simp [h1, h2]; omega) | (simp only [h1, h2]; simp; done)))) | refine n_must (by (with_reducible refine and_shape ?_) <;> kernel_rfl) ?_); (refine gs ?_)))
    rw [if_pos (.inr h2)]
    exact n_ret0 rfl rfl fun ids' w' hp hI' => ⟨rfl, hI'.frm⟩
  rw [if_neg (by omega)] at h ⊢
  by_cases h3 : me < 0
  · (repeat ((first | refine n_must rfl ?_ | refine n_chk (drawF_ok (by decide +kernel)) ?_ | refine n_same rfl ?_ | ((first | refine n_must ?_ ?_ | refine n_brT ?_ ?_); (focus (first | (simp [h1, h2, h3]; done) | (simp [h1, h2, h3]; omega) | (simp only [h1, h2, h3]; simp; done)))) | (refine n_brF ?_ ?_; (focus (first | (simp [h1, h2, h3]; done) | (simp [h1, h2, h3]; omega) | (simp only [h1, h2, h3]; simp; done)))) | refine n_must (by (with_reducible refine and_shape ?_) <;> kernel_rfl) ?_); (refine gs ?_)))
    rw [if_pos (.inl h3)]
    exact n_ret0 rfl rfl fun ids' w' hp hI' => ⟨rfl, hI'.frm⟩
  by_cases h4 : n ≤ me
  · (repeat ((first | refine n_must rfl ?_ | refine n_chk (drawF_ok (by decide +kernel)) ?_ | refine n_same rfl ?_ | ((first | refine n_must ?_ ?_ | refine n_brT ?_ ?_); (focus (first | (simp [h1, h2, h3, h4]; done) | (simp [h1, h2, h3, h4]; omega) | (simp only [h1, h2, h3, h4]; simp; done)))) | (refine n_brF ?_ ?_; (focus (first | (simp [h1, h2, h3, h4]; done) | (simp [h1, h2, h3, h4]; omega) | (simp only [h1, h2, h3, h4]; simp; done)))) | refine n_must (by (with_reducible refine and_shape ?_) <;> kernel_rfl) ?_); (refine gs ?_)))
    rw [if_pos (.inr h4)]
    exact n_ret0 rfl rfl fun ids' w' hp hI' => ⟨rfl, hI'.frm⟩
  rw [if_neg (by omega)] at h
  exact absurd rfl h
theorem rgNew_good {me n : Int} (h : newErr me n = 0) (w : World) : Calls Tryz.prog 25 #[.int .i64 me, .int .i64 n] w fun e w' => ∃ y : Nat, e = .returned (.tuple #[pV y, .int .i64 0]) ∧ True ∧ FreshR w w' (rgRes y none 0 ⟨me, n, []⟩) := by
  have hI : Inv (cx 23 [] [] w) w [0] [⟨123, [.res (rowRes 123 4 none 0 0 [])], true⟩] := (Inv.nil w).consR (by simp) (rowRes_nil _ _ _) (by simp [rowRes]) (by simp [rowRes])
  obtain ⟨h1, h2, h3, h4⟩ := newErr_0 h
  have q1 : ¬ n < 2 := by omega
  have q2 : ¬ 16 < n := by omega
  have q3 : ¬ me < 0 := by omega
  have q4 : ¬ n ≤ me := by omega
  refine calls_sm (cx 23 [] [] w) (vals := [.int .i64 me, .int .i64 n]) mixed Tryz.func25 rfl rfl rfl hI rfl (st rfl ?_); conv => arg 3; whnf
  (repeat ((first | refine n_must rfl ?_ | refine n_chk (drawF_ok (by decide +kernel)) ?_ | refine n_same rfl ?_ | ((first | refine n_must ?_ ?_ | refine n_brT ?_ ?_); (focus (first | (simp [q1, q2, q3, q4]; done) | (simp [q1, q2, q3, q4]; omega) | (simp only [q1, q2, q3, q4]; simp; done)))) | (refine n_brF ?_ ?_; (focus (first | (simp [q1, q2, q3, q4]; done) | (simp [q1, q2, q3, q4]; omega) | (simp only [q1, q2, q3, q4]; simp; done)))) | refine n_must (by (with_reducible refine and_shape ?_) <;> kernel_rfl) ?_); (refine gs ?_)))
  refine n_ret rfl fun ids' w' hp hI' => ?_
  obtain ⟨p, rfl⟩ := ext1 hp (by rw [hI'.len]; rfl)
  refine ⟨_, rfl, p, rfl, trivial, ?_⟩
  exact fresh_shut hI' rfl [1, 0] (.blk rfl rfl rfl rfl (.res rfl .nil)) (by simp)

/-! ### Need -/
def Rg.need (s : Rg) (nm : ByteArray) (d u : Int) : Rg := if 0 ≤ d ∧ 0 ≤ u ∧ d ≤ 1099511627776 ∧ u ≤ 1099511627776 then { s with All := s.All ++ [⟨nm, d, u, false⟩] } else s
theorem rNeed_ok {p : Nat} {o : Option Addr} {cap : Nat} {s : Rg} {w : World} (hR : (rgRes p o cap s).R w) (hl : s.All.length ≤ 100000) (nm : ByteArray) (d u : Int) :
    Calls Tryz.prog 28 #[pV p, .string nm, rtV (d, u)] w fun e w' => ∃ y : Option Addr × Nat, e = .returned (.tuple #[]) ∧ True ∧ Post (rgRes p o cap s) (rgRes p y.1 y.2 (s.need nm d u)) w w' := by
  obtain ⟨it, hit, hparts⟩ := Option.map_eq_some_iff.1 infoEn
  simp only [Prod.mk.injEq] at hparts
  have hI : Inv (cx 36 [(2, .of [(0, []), (1, []), (2, []), (3, []), (4, []), (5, []), (6, []), (7, []), (8, [4]), (9, []), (10, []), (11, []), (12, [])])] (rgRes p o cap s).fp w) w [p, 0] (rgMem o cap s) := memRes_open hR fun x hx => hx
  refine calls_sm (cx 36 [(2, .of [(0, []), (1, []), (2, []), (3, []), (4, []), (5, []), (6, []), (7, []), (8, [4]), (9, []), (10, []), (11, []), (12, [])])] (rgRes p o cap s).fp w) (vals := [.ptr 0 0, .str nm, .agg [.int .i64 d, .int .i64 u]]) mixed Tryz.func28 rfl rfl rfl hI rfl (st rfl ?_); conv => arg 3; whnf
  refine gg ?_
  by_cases h : 0 ≤ d ∧ 0 ≤ u ∧ d ≤ 1099511627776 ∧ u ≤ 1099511627776
  · obtain ⟨h1, h2, h3, h4⟩ := h
    have e : s.need nm d u = { s with All := s.All ++ [⟨nm, d, u, false⟩] } := by rw [Rg.need, if_pos ⟨h1, h2, h3, h4⟩]
    rw [e]
    (repeat ((first | refine n_must rfl ?_ | refine n_chk (drawF_ok (by decide +kernel)) ?_ | refine n_same rfl ?_ | ((first | refine n_must ?_ ?_ | refine n_brT ?_ ?_); (focus (first | (simp [h1, h2, h3, h4]; done) | (simp [h1, h2, h3, h4]; omega) | (simp only [h1, h2, h3, h4]; simp; done)))) | (refine n_brF ?_ ?_; (focus (first | (simp [h1, h2, h3, h4]; done) | (simp [h1, h2, h3, h4]; omega) | (simp only [h1, h2, h3, h4]; simp; done)))) | refine n_must (by (with_reducible refine and_shape ?_) <;> kernel_rfl) ?_); (refine gs ?_)))
    refine n_build1 rfl rfl elemEn rfl rfl rfl rfl rfl rfl rfl rfl rfl ?_
    (refine gs ?_)
    refine gw ?_
    refine n_append (nv := enL ⟨nm, d, u, false⟩) 1 rfl rfl elemEn hit hparts.1 hparts.2.1 hparts.2.2 rfl (by omega) rfl rfl rfl rfl rfl rfl (by omega) (by simp [Value.oneCell']) (by omega) (by omega) (show s.All.flatMap enL ++ enL ⟨nm, d, u, false⟩ = (s.All ++ [(⟨nm, d, u, false⟩ : En)]).flatMap enL by simp) fun g' ca' => ?_
    rw [show s.All.length + 1 = (s.All ++ [(⟨nm, d, u, false⟩ : En)]).length by simp]
    (refine gs ?_)
    refine gw ?_
    exact n_end0 rfl rfl fun ids' w' hp hI' => ⟨(some ⟨g', 0, none⟩, ca'), rfl, trivial, post_shut hI' rfl [0, 1] (.blk rfl (pre_at hp rfl) rfl rfl (.res rfl .nil)) (by simp)⟩
  · have e : s.need nm d u = s := by rw [Rg.need, if_neg h]
    rw [e]
    repeat' (first | (refine n_must rfl ?_; (refine gs ?_)) | (refine n_chk (drawF_ok (by decide +kernel)) ?_; (refine gs ?_)) | (refine n_same rfl ?_; (refine gs ?_)) | (refine n_br (fun hbr => ?_) (fun hbr => ?_) <;> simp only [decide_eq_true_eq, decide_eq_false_iff_not] at hbr <;> (refine gs ?_)))
    all_goals first | (exfalso; omega) | skip
    all_goals exact n_end0 rfl rfl fun ids' w' hp hI' => ⟨(o, cap), rfl, trivial, post_shut hI' rfl [0, 1] (.blk rfl (pre_at hp rfl) rfl rfl (.res rfl .nil)) (by simp)⟩

/-! ### Lacks -/
def lackS (nm : ByteArray) (a : Int × Int) (e : En) : Int × Int := if e.nm = nm ∧ e.ov = false then (max a.1 e.d, max a.2 e.u) else a
def lackR (All : List En) (nm : ByteArray) : Int × Int := All.foldl (lackS nm) (0, 0)
theorem lackR_next {All : List En} {i : Nat} {e : En} (h : All[i]? = some e) (nm : ByteArray) : lackR (All.take (i + 1)) nm = lackS nm (lackR (All.take i) nm) e := by
  unfold lackR
  rw [List.take_add_one, h]
  simp
theorem rLacks_ok {p : Nat} {o : Option Addr} {cap : Nat} {s : Rg} {w : World} (hR : (rgRes p o cap s).R w) (hl : s.All.length ≤ 1000000) (nm : ByteArray) :
    Calls Tryz.prog 32 #[pV p, .string nm] w fun e w' => e = .returned (rtV (lackR s.All nm)) ∧ Frm [] w w' := by
  have hI : Inv (cx 65 [] [] w) w [p, 0] (ro (rgMem o cap s)) := memRes_read hR
  refine calls_sm (cx 65 [] [] w) (vals := [.ptr 0 0, .str nm]) mixed Tryz.func32 rfl rfl rfl hI rfl (st rfl ?_); conv => arg 3; whnf
  refine gg ?_
  refine n_loop2 rfl fun n1 n2 => ?_
  refine n_loop (σ := Nat) (fun i => [(0, .ptr 0 0), (1, .str nm), (4, .ptr 2 0), (5, .ptr 3 0), (6, .int .i64 (i : Nat))]) (fun i => ro (rgMem o cap s) ++ [⟨37, [.int .i64 0, .int .i64 0], true⟩, ⟨37, [.int .i64 (lackR (s.All.take i) nm).1, .int .i64 (lackR (s.All.take i) nm).2], true⟩]) (fun i => i ≤ s.All.length) (fun i => s.All.length - i) 0 mixed (by omega) (fun _ _ => rfl) rfl (by (repeat (first | exact trivial | refine ⟨⟨rfl, rfl⟩, ?_⟩))) (fun s _ => ⟨by (repeat (first | exact trivial | refine ⟨⟨_, rfl⟩, ?_⟩)), by (repeat (first | exact trivial | refine ⟨⟨_, rfl⟩, ?_⟩))⟩) fun i hi => ?_
  (refine gs ?_)
  by_cases hlt : i < s.All.length
  · have ei : IntKind.i64.wrap ((i : Int) + 1) = ((i + 1 : Nat) : Int) := by rw [w64 (by omega) (by omega)]; simp
    obtain ⟨g, rfl⟩ := rowRes_some' (memRes_res hR 1 rfl rfl) (by omega)
    have hx : s.All[i]? = some s.All[i] := List.getElem?_eq_getElem _
    generalize s.All[i] = e at hx
    have hnx := lackR_next hx nm
    obtain ⟨en, ed, eu, eo⟩ := e
    generalize lackR (s.All.take i) nm = T at hnx
    obtain ⟨td, tu⟩ := T
    refine gw ?_
    refine n_ldI (.str en) rfl rfl (fun _ w1 _ hI1 => load_cell aggStr (row_at en_len (hI1.res 1 rfl rfl) hx (j := 0) (by omega) rfl (by simp [add_add]))) ?_
    (refine gs ?_)
    by_cases h1 : en = nm
    · refine gw ?_
      refine n_brT (by rw [bytes_eq]; simp [h1]) ?_
      (refine gs ?_)
      refine gw ?_
      refine n_ldI (.bool eo) rfl rfl (fun _ w1 _ hI1 => load_cell aggBool (row_at en_len (hI1.res 1 rfl rfl) hx (j := 3) (by omega) rfl (by simp [add_add]))) ?_
      (refine gs ?_)
      cases eo with
      | true =>
        have e1 : lackS nm (td, tu) ⟨en, ed, eu, true⟩ = (td, tu) := by rw [lackS, if_neg (by simp)]
        refine gw ?_
        refine n_again ⟨i + 1, by omega, by omega, (by (repeat (first | exact trivial | refine ⟨⟨rfl, rfl⟩, ?_⟩ | refine ⟨⟨rfl, congrArg (SV.int .i64) ei⟩, ?_⟩))), ?_⟩
        rw [hnx, e1]; exact ⟨_, rfl⟩
      | false =>
        have e1 : lackS nm (td, tu) ⟨en, ed, eu, false⟩ = (max td ed, max tu eu) := by rw [lackS, if_pos ⟨h1, rfl⟩]
        refine gw ?_
        refine n_ldDI (.int .i64 ed) rfl rfl (fun _ w1 _ hI1 => load_cell aggInt (row_at en_len (hI1.res 1 rfl rfl) hx (j := 1) (by omega) rfl (by simp [add_add]))) ?_
        (refine gs ?_)
        refine gw ?_
        repeat (refine n_ldRI (.int .i64 ed) rfl (fun _ w1 _ hI1 => load_cell aggInt (row_at en_len (hI1.res 1 rfl rfl) hx (j := 1) (by omega) rfl (by simp [add_add]))) ?_; (refine gs ?_); refine gw ?_)
        refine n_ldDI (.int .i64 eu) rfl rfl (fun _ w1 _ hI1 => load_cell aggInt (row_at en_len (hI1.res 1 rfl rfl) hx (j := 2) (by omega) rfl (by simp [add_add]))) ?_
        (refine gs ?_)
        refine gw ?_
        repeat (refine n_ldRI (.int .i64 eu) rfl (fun _ w1 _ hI1 => load_cell aggInt (row_at en_len (hI1.res 1 rfl rfl) hx (j := 2) (by omega) rfl (by simp [add_add]))) ?_; (refine gs ?_); refine gw ?_)
        refine n_again ⟨i + 1, by omega, by omega, (by (repeat (first | exact trivial | refine ⟨⟨rfl, rfl⟩, ?_⟩ | refine ⟨⟨rfl, congrArg (SV.int .i64) ei⟩, ?_⟩))), ?_⟩
        rw [hnx, e1]; exact ⟨_, rfl⟩
    · have e1 : lackS nm (td, tu) ⟨en, ed, eu, eo⟩ = (td, tu) := by rw [lackS, if_neg (fun h => h1 h.1)]
      refine gw ?_
      refine n_brF (by rw [bytes_eq]; simp [h1]) ?_
      (refine gs ?_)
      refine gw ?_
      refine n_again ⟨i + 1, by omega, by omega, (by (repeat (first | exact trivial | refine ⟨⟨rfl, rfl⟩, ?_⟩ | refine ⟨⟨rfl, congrArg (SV.int .i64) ei⟩, ?_⟩))), ?_⟩
      rw [hnx, e1]; exact ⟨_, rfl⟩
  · obtain rfl : i = s.All.length := by omega
    rw [List.take_length]
    refine gw ?_
    refine n_exit rfl ?_
    (refine gs ?_)
    refine gw ?_
    exact n_ret0 rfl rfl fun ids' w' hp hI' => ⟨rfl, hI'.frm⟩

/-! ### clear -/
def clr (nm : ByteArray) (e : En) : En := if e.nm = nm then { e with ov := true } else e
def Rg.clear (s : Rg) (nm : ByteArray) : Rg := { s with All := s.All.map (clr nm) }
def clrT (nm : ByteArray) (All : List En) (i : Nat) : List En := (All.take i).map (clr nm) ++ All.drop i
theorem clrT_len (nm : ByteArray) (All : List En) (i : Nat) : (clrT nm All i).length = All.length := by
  unfold clrT; simp; omega
theorem clrT_at {nm : ByteArray} {All : List En} {i : Nat} {e : En} (h : All[i]? = some e) : (clrT nm All i)[i]? = some e ∧ (clrT nm All i).set i (clr nm e) = clrT nm All (i + 1) := by
  have hi := (List.getElem?_eq_some_iff.1 h).1
  have he := (List.getElem?_eq_some_iff.1 h).2
  have hl : ((All.take i).map (clr nm)).length = i := by simp; omega
  unfold clrT
  constructor
  · rw [List.getElem?_append_right (by omega), hl, Nat.sub_self, List.getElem?_drop]; simpa using h
  · rw [List.set_append, if_neg (by omega), hl, Nat.sub_self, List.drop_eq_getElem_cons hi, he, List.take_add_one, h]
    simp
theorem rclear_ok {p : Nat} {o : Option Addr} {cap : Nat} {s : Rg} {w : World} (hR : (rgRes p o cap s).R w) (hl : s.All.length ≤ 1000000) (nm : ByteArray) :
    Calls Tryz.prog 64 #[pV p, .string nm] w fun e w' => e = .returned (.tuple #[]) ∧ Post (rgRes p o cap s) (rgRes p o cap (s.clear nm)) w w' := by
  have hI : Inv (cx 31 [] (rgRes p o cap s).fp w) w [p, 0] (rgMem o cap s) := memRes_open hR fun x hx => hx
  refine calls_sm (cx 31 [] (rgRes p o cap s).fp w) (vals := [.ptr 0 0, .str nm]) mixed Tryz.func64 rfl rfl rfl hI rfl (st rfl ?_); conv => arg 3; whnf
  refine gg ?_
  refine n_loop (σ := Nat) (fun i => [(0, .ptr 0 0), (1, .str nm), (4, .int .i64 (i : Nat))]) (fun i => [⟨115, [.int .i64 s.me, .int .i64 s.n, .raw (.slice o s.All.length cap)], true⟩, ⟨123, [.res (rowRes 123 4 o s.All.length cap ((clrT nm s.All i).flatMap enL))], true⟩]) (fun i => i ≤ s.All.length) (fun i => s.All.length - i) 0 mixed (by omega) (fun _ _ => rfl) rfl (by (repeat (first | exact trivial | refine ⟨⟨rfl, rfl⟩, ?_⟩))) (fun s _ => ⟨by (repeat (first | exact trivial | refine ⟨⟨_, rfl⟩, ?_⟩)), by (repeat (first | exact trivial | refine ⟨⟨_, rfl⟩, ?_⟩))⟩) fun i hi => ?_
  (refine gs ?_)
  by_cases hlt : i < s.All.length
  · have ei : IntKind.i64.wrap ((i : Int) + 1) = ((i + 1 : Nat) : Int) := by rw [w64 (by omega) (by omega)]; simp
    obtain ⟨g, rfl⟩ := rowRes_some' (memRes_res hR 1 rfl rfl) (by omega)
    have hx0 : s.All[i]? = some s.All[i] := List.getElem?_eq_getElem _
    generalize s.All[i] = e at hx0
    obtain ⟨hx, hset⟩ := clrT_at (nm := nm) hx0
    have hcl := clrT_len nm s.All i
    generalize clrT nm s.All i = T at hx hset hcl
    obtain ⟨en, ed, eu, eo⟩ := e
    refine gw ?_
    refine n_ldI (.str en) rfl rfl (fun _ w1 _ hI1 => load_cell aggStr (row_at en_len (hI1.res 1 rfl rfl) hx (j := 0) (by omega) rfl (by simp [add_add]))) ?_
    (refine gs ?_)
    by_cases h1 : en = nm
    · have e1 : clr nm ⟨en, ed, eu, eo⟩ = ⟨en, ed, eu, true⟩ := by rw [clr, if_pos h1]
      rw [e1] at hset
      refine gw ?_
      refine n_brT (by rw [bytes_eq]; simp [h1]) ?_
      (refine gs ?_)
      refine gw ?_
      refine n_storeRow (g := g) (off := i * 4 + 3) (k := 1) (rv := .lit true) (v := .bool true) 1 ((clrT nm s.All (i + 1)).flatMap enL) rfl rfl rfl (by rw [add_add, add_mk]; simp) rfl rfl sizeBool rfl rfl rfl (by rw [flat_len en_len, hcl]; omega) (by rw [← hset]; exact flat_set1 en_len hx (by omega) rfl) ?_
      (refine gs ?_)
      refine gw ?_
      exact n_again ⟨i + 1, by omega, by omega, (by (repeat (first | exact trivial | refine ⟨⟨rfl, rfl⟩, ?_⟩ | refine ⟨⟨rfl, congrArg (SV.int .i64) ei⟩, ?_⟩))), ⟨_, rfl⟩⟩
    · have e1 : clr nm ⟨en, ed, eu, eo⟩ = ⟨en, ed, eu, eo⟩ := by rw [clr, if_neg h1]
      rw [e1] at hset
      have hset2 : T = clrT nm s.All (i + 1) := by
        rw [← hset]
        apply List.ext_getElem?
        intro q
        rw [List.getElem?_set]
        split
        · rename_i hq; subst hq; rw [if_pos (by omega)]; exact hx
        · rfl
      refine gw ?_
      refine n_brF (by rw [bytes_eq]; simp [h1]) ?_
      (refine gs ?_)
      refine gw ?_
      exact n_again ⟨i + 1, by omega, by omega, (by (repeat (first | exact trivial | refine ⟨⟨rfl, rfl⟩, ?_⟩ | refine ⟨⟨rfl, congrArg (SV.int .i64) ei⟩, ?_⟩))), by rw [← hset2]; exact ⟨_, rfl⟩⟩
  · obtain rfl : i = s.All.length := by omega
    have e : clrT nm s.All s.All.length = s.All.map (clr nm) := by simp [clrT]
    rw [e]
    refine gw ?_
    refine n_exit rfl ?_
    (refine gs ?_)
    refine gw ?_
    have hll : s.All.length = (s.clear nm).All.length := by simp [Rg.clear]
    rw [hll]
    exact n_end0 rfl rfl fun ids' w' hp hI' => ⟨rfl, post_shut hI' rfl [0, 1] (.blk rfl (pre_at hp rfl) rfl rfl (.res rfl .nil)) (by simp)⟩
end Go.Proofs.YtglafgpjgkphkaaGreatDoor
