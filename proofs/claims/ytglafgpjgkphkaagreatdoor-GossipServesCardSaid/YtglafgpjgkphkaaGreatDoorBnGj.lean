/- Package views: Take. Package views: About, Known. -/
import Derived.Test.YtglafgpjgkphkaaGreatDoorBnGm
import Derived.Test.YtglafgpjgkphkaaGreatDoorBnU
namespace Go.Proofs.YtglafgpjgkphkaaGreatDoor
section
set_option maxRecDepth 100000
set_option linter.unusedSimpArgs false
set_option linter.unusedVariables false
set_option maxHeartbeats 4000000
open Go.RowKit

theorem vw_len (x : Vw) : x.l.length = 7 := rfl
theorem aggView : aggB Tryz.prog 104 = some true := by kernel_rfl
theorem sizeView : sizeB Tryz.prog 104 = some 7 := by kernel_rfl
theorem read_some {o : Option Addr} {L : List Vw} {w : World} (h : (readRes o (L.flatMap Vw.l)).R w) (hn : 0 < L.length) : ∃ a, o = some a := rd_some vw_len (by omega) h hn
theorem read_cell {a : Addr} {L : List Vw} {w : World} (h : (readRes (some a) (L.flatMap Vw.l)).R w) {i : Nat} {x : Vw} (hx : L[i]? = some x) {j : Nat} {u : Value} (hu : x.l[j]? = some u) {ad : Addr} (had : ad = a.add (i * 7 + j)) : w.cell? ad = some u :=
  rd_at vw_len h hx (by have := (List.getElem?_eq_some_iff.1 hu).1; simpa using this) hu had
theorem read_row {a : Addr} {L : List Vw} {w : World} (h : (readRes (some a) (L.flatMap Vw.l)).R w) {i : Nat} {x : Vw} (hx : L[i]? = some x) {ad : Addr} (had : ad = a.add (i * 7)) : (loadVar 104 ad).run Tryz.prog w = .ok x.val w :=
  load_row (l := x.l) aggView sizeView fun j u hu => read_cell h hx hu (by rw [had, add_add])

/-! ### What Take does -/
def ltS (a b : ByteArray) : Bool := Op.bytesLess a.toList b.toList
def okAt (L : List Vw) (i : Nat) : Bool := rightB (L.getD i Vw.zero) && (i == 0 || ltS (L.getD (i - 1) Vw.zero).nm (L.getD i Vw.zero).nm)
def goodL (L : List Vw) : Bool := (List.range L.length).all (okAt L)
def freshN (s : Vs) (r : Int) (L : List Vw) : Nat := L.countP fun x => !(mget s.V (r, x.nm)).isSome
def Vs.take1 (r : Int) (a : Vs × Nat) (x : Vw) : Vs × Nat := if (a.1.last r x.nm).ver < x.ver then (a.1.put r x, a.2 + 1) else a
def Vs.takes (s : Vs) (r : Int) (L : List Vw) : Vs × Nat := L.foldl (Vs.take1 r) (s, 0)
def Vs.take (s : Vs) (r : Int) (L : List Vw) : Vs × Int × Int :=
  if r < 0 ∨ (s.ns.length : Int) ≤ r ∨ r = s.me then (s, 0, 3) else if 64 < L.length then (s, 0, 2) else if goodL L = false then (s, 0, 1) else
  if 64 < cnt s.ns r + freshN s r L then (s, 0, 102) else ((s.takes r L).1, ((s.takes r L).2 : Int), 0)

theorem right_len {x : Vw} (h : rightB x = true) : x.nm.size ≤ 16 := by
  simp only [rightB, namedB, Bool.and_eq_true, decide_eq_true_eq] at h
  exact h.1.1.2
theorem put_cnt {s : Vs} {r : Int} {x : Vw} {q : Int} (h : 0 ≤ cnt s.ns r ∧ cnt s.ns r ≤ q) (hr : 0 ≤ r ∧ r < s.ns.length) : 0 ≤ cnt (s.put r x).ns r ∧ cnt (s.put r x).ns r ≤ q + 1 := by
  unfold Vs.put
  dsimp only
  split
  · omega
  · have e : cnt (s.ns.set r.toNat (cnt s.ns r + 1)) r = cnt s.ns r + 1 := by
      have : r.toNat < s.ns.length := by omega
      simp [cnt, List.getD, this]
    rw [e]; omega
theorem takes_next {s : Vs} {r : Int} {L : List Vw} {i : Nat} {x : Vw} (hx : L[i]? = some x) : s.takes r (L.take (i + 1)) = Vs.take1 r (s.takes r (L.take i)) x := by
  unfold Vs.takes
  rw [List.take_add_one, hx]
  simp
theorem take1_inv {r : Int} {a : Vs × Nat} {x : Vw} {q : Int} {n : Nat} {me : Int} (h : a.1.ns.length = n ∧ a.1.me = me ∧ 0 ≤ cnt a.1.ns r ∧ cnt a.1.ns r ≤ q) (hr : 0 ≤ r ∧ r < n) :
    (Vs.take1 r a x).1.ns.length = n ∧ (Vs.take1 r a x).1.me = me ∧ 0 ≤ cnt (Vs.take1 r a x).1.ns r ∧ cnt (Vs.take1 r a x).1.ns r ≤ q + 1 := by
  unfold Vs.take1
  split
  · dsimp only
    have := put_cnt (x := x) ⟨h.2.2.1, h.2.2.2⟩ (r := r) (by omega)
    exact ⟨(Vs.put_len _ _ _).trans h.1, h.2.1, this⟩
  · omega
theorem takes_inv {s : Vs} {r : Int} {q : Int} (hc : 0 ≤ cnt s.ns r ∧ cnt s.ns r ≤ q) (hr : 0 ≤ r ∧ r < s.ns.length) (L : List Vw) : ∀ i, i ≤ L.length → (s.takes r (L.take i)).1.ns.length = s.ns.length ∧ (s.takes r (L.take i)).1.me = s.me ∧ 0 ≤ cnt (s.takes r (L.take i)).1.ns r ∧ cnt (s.takes r (L.take i)).1.ns r ≤ q + i ∧ (s.takes r (L.take i)).2 ≤ i
  | 0, _ => by simp [Vs.takes]; omega
  | i + 1, hi => by
    have ih := takes_inv hc hr L i (by omega)
    have hx : L[i]? = some L[i] := List.getElem?_eq_getElem _
    rw [takes_next hx]
    have h2 := take1_inv (x := L[i]) ⟨ih.1, ih.2.1, ih.2.2.1, ih.2.2.2.1⟩ hr
    refine ⟨h2.1, h2.2.1, h2.2.2.1, by omega, ?_⟩
    unfold Vs.take1
    split
    · dsimp only; omega
    · omega
theorem fresh_next {s : Vs} {r : Int} {L : List Vw} {i : Nat} {x : Vw} (hx : L[i]? = some x) : freshN s r (L.take (i + 1)) = freshN s r (L.take i) + if (mget s.V (r, x.nm)).isSome then 0 else 1 := by
  unfold freshN
  rw [List.take_add_one, hx]
  simp [List.countP_append, List.countP_cons]
  cases mget s.V (r, x.nm) <;> simp
theorem goodL_true {L : List Vw} (h : ∀ j, j < L.length → okAt L j = true) : goodL L = true := by
  unfold goodL
  simp only [List.all_eq_true, List.mem_range]
  exact h
theorem goodL_false {L : List Vw} {i : Nat} (hi : i < L.length) (h : okAt L i = false) : goodL L = false := by
  unfold goodL
  rw [Bool.eq_false_iff]
  intro hc
  simp only [List.all_eq_true, List.mem_range] at hc
  rw [hc i hi] at h; cases h

theorem Take_ok {p mb nb : Nat} {s : Vs} {w : World} (hR : (viewsRes p mb nb s).R w) (hl : s.ns.length ≤ 1000) (r : Int) (hr : i64 r) (hc : 0 ≤ cnt s.ns r ∧ cnt s.ns r ≤ 500000) {o : Option Addr} {L : List Vw} (cap : Nat) (hL : (readRes o (L.flatMap Vw.l)).R w) (hLlt : ∀ x ∈ (readRes o (L.flatMap Vw.l)).fp, x < w.heap.size) (hap : ∀ x ∈ (viewsRes p mb nb s).fp, x ∉ (readRes o (L.flatMap Vw.l)).fp) :
    Calls Tryz.prog 24 #[pV p, .int .i64 r, .slice o L.length cap] w fun e w' => e = .returned (.tuple #[.int .i64 (s.take r L).2.1, .int .i64 (s.take r L).2.2]) ∧ Post (viewsRes p mb nb s) (viewsRes p mb nb (s.take r L).1) w w' := by
  have hI : Inv (cx 118 [(11, .then [(0, []), (1, []), (2, []), (3, []), (4, []), (5, []), (6, []), (7, [])] (.fork 8 [] (.of [(9, []), (10, []), (11, []), (12, []), (13, []), (14, [])]) (.cons 12 [6, 3] (.of [(8, []), (9, []), (10, []), (11, []), (13, []), (14, [])])))), (21, .of [(0, []), (1, []), (2, []), (3, []), (4, []), (5, []), (6, []), (7, []), (8, []), (9, []), (10, [1]), (11, []), (12, [])])] (viewsRes p mb nb s).fp w) w [0, 0] [⟨97, [.res (viewsRes p mb nb s)], true⟩, ⟨104, [.res (readRes o (L.flatMap Vw.l))], false⟩] :=
    ((Inv.nil w).consR (by simp) hR (viewsRes_lt hR) (by simp)).consR (by intro x hx hm; simp at hm; exact hap x hm hx) hL hLlt (by simp)
  refine calls_sm (cx 118 [(11, .then [(0, []), (1, []), (2, []), (3, []), (4, []), (5, []), (6, []), (7, [])] (.fork 8 [] (.of [(9, []), (10, []), (11, []), (12, []), (13, []), (14, [])]) (.cons 12 [6, 3] (.of [(8, []), (9, []), (10, []), (11, []), (13, []), (14, [])])))), (21, .of [(0, []), (1, []), (2, []), (3, []), (4, []), (5, []), (6, []), (7, []), (8, []), (9, []), (10, [1]), (11, []), (12, [])])] (viewsRes p mb nb s).fp w) (vals := [.raw (pV p), .int .i64 r, .raw (.slice o L.length cap)]) mixed Tryz.func24 rfl rfl rfl hI rfl (st rfl ?_); conv => arg 3; whnf
  by_cases h1 : r < 0
  · (repeat ((first | refine n_must rfl ?_ | refine n_chk (drawF_ok (by decide +kernel)) ?_ | refine n_same rfl ?_ | ((first | refine n_must ?_ ?_ | refine n_brT ?_ ?_); (focus (first | (simp [h1]; done) | (simp [h1]; omega) | (simp only [h1]; simp; done)))) | (refine n_brF ?_ ?_; (focus (first | (simp [h1]; done) | (simp [h1]; omega) | (simp only [h1]; simp; done)))) | refine n_must (by (with_reducible refine and_shape ?_) <;> kernel_rfl) ?_); (refine gs ?_)))
    have e : s.take r L = (s, 0, 3) := by rw [Vs.take, if_pos (.inl h1)]
    rw [e]
    exact n_ret0 rfl rfl fun ids' w' hp hI' => ⟨rfl, post_res hI' rfl 0 rfl rfl rfl⟩
  (repeat ((first | refine n_must rfl ?_ | refine n_chk (drawF_ok (by decide +kernel)) ?_ | refine n_same rfl ?_ | ((first | refine n_must ?_ ?_ | refine n_brT ?_ ?_); (focus (first | (simp [h1]; done) | (simp [h1]; omega) | (simp only [h1]; simp; done)))) | (refine n_brF ?_ ?_; (focus (first | (simp [h1]; done) | (simp [h1]; omega) | (simp only [h1]; simp; done)))) | refine n_must (by (with_reducible refine and_shape ?_) <;> kernel_rfl) ?_); (refine gs ?_)))
  refine n_ldI (.int .i64 (s.ns.length : Nat)) rfl rfl (fun _ w1 _ hI1 => load_cell aggInt (blk_at (hI1.res 0 rfl rfl).1 (j := 1) rfl rfl)) ?_
  (refine gs ?_)
  by_cases h2 : (s.ns.length : Int) ≤ r
  · (repeat ((first | refine n_must rfl ?_ | refine n_chk (drawF_ok (by decide +kernel)) ?_ | refine n_same rfl ?_ | ((first | refine n_must ?_ ?_ | refine n_brT ?_ ?_); (focus (first | (simp [h2]; done) | (simp [h2]; omega) | (simp only [h2]; simp; done)))) | (refine n_brF ?_ ?_; (focus (first | (simp [h2]; done) | (simp [h2]; omega) | (simp only [h2]; simp; done)))) | refine n_must (by (with_reducible refine and_shape ?_) <;> kernel_rfl) ?_); (refine gs ?_)))
    have e : s.take r L = (s, 0, 3) := by rw [Vs.take, if_pos (.inr (.inl h2))]
    rw [e]
    exact n_ret0 rfl rfl fun ids' w' hp hI' => ⟨rfl, post_res hI' rfl 0 rfl rfl rfl⟩
  (repeat ((first | refine n_must rfl ?_ | refine n_chk (drawF_ok (by decide +kernel)) ?_ | refine n_same rfl ?_ | ((first | refine n_must ?_ ?_ | refine n_brT ?_ ?_); (focus (first | (simp [h2]; done) | (simp [h2]; omega) | (simp only [h2]; simp; done)))) | (refine n_brF ?_ ?_; (focus (first | (simp [h2]; done) | (simp [h2]; omega) | (simp only [h2]; simp; done)))) | refine n_must (by (with_reducible refine and_shape ?_) <;> kernel_rfl) ?_); (refine gs ?_)))
  refine n_ldI (.int .i64 s.me) rfl rfl (fun _ w1 _ hI1 => load_cell aggInt (blk_at (hI1.res 0 rfl rfl).1 (j := 0) rfl rfl)) ?_
  (refine gs ?_)
  by_cases h3 : r = s.me
  · (repeat ((first | refine n_must rfl ?_ | refine n_chk (drawF_ok (by decide +kernel)) ?_ | refine n_same rfl ?_ | ((first | refine n_must ?_ ?_ | refine n_brT ?_ ?_); (focus (first | (simp [h3]; done) | (simp [h3]; omega) | (simp only [h3]; simp; done)))) | (refine n_brF ?_ ?_; (focus (first | (simp [h3]; done) | (simp [h3]; omega) | (simp only [h3]; simp; done)))) | refine n_must (by (with_reducible refine and_shape ?_) <;> kernel_rfl) ?_); (refine gs ?_)))
    have e : s.take r L = (s, 0, 3) := by rw [Vs.take, if_pos (.inr (.inr h3))]
    rw [e]
    exact n_ret0 rfl rfl fun ids' w' hp hI' => ⟨rfl, post_res hI' rfl 0 rfl rfl rfl⟩
  (repeat ((first | refine n_must rfl ?_ | refine n_chk (drawF_ok (by decide +kernel)) ?_ | refine n_same rfl ?_ | ((first | refine n_must ?_ ?_ | refine n_brT ?_ ?_); (focus (first | (simp [h3]; done) | (simp [h3]; omega) | (simp only [h3]; simp; done)))) | (refine n_brF ?_ ?_; (focus (first | (simp [h3]; done) | (simp [h3]; omega) | (simp only [h3]; simp; done)))) | refine n_must (by (with_reducible refine and_shape ?_) <;> kernel_rfl) ?_); (refine gs ?_)))
  have hno : ¬ (r < 0 ∨ (s.ns.length : Int) ≤ r ∨ r = s.me) := by omega
  have hrr : 0 ≤ r ∧ r < s.ns.length := by omega
  by_cases h4 : 64 < L.length
  · (repeat ((first | refine n_must rfl ?_ | refine n_chk (drawF_ok (by decide +kernel)) ?_ | refine n_same rfl ?_ | ((first | refine n_must ?_ ?_ | refine n_brT ?_ ?_); (focus (first | (simp [h4]; done) | (simp [h4]; omega) | (simp only [h4]; simp; done)))) | (refine n_brF ?_ ?_; (focus (first | (simp [h4]; done) | (simp [h4]; omega) | (simp only [h4]; simp; done)))) | refine n_must (by (with_reducible refine and_shape ?_) <;> kernel_rfl) ?_); (refine gs ?_)))
    have e : s.take r L = (s, 0, 2) := by rw [Vs.take, if_neg hno, if_pos h4]
    rw [e]
    exact n_ret0 rfl rfl fun ids' w' hp hI' => ⟨rfl, post_res hI' rfl 0 rfl rfl rfl⟩
  (repeat ((first | refine n_must rfl ?_ | refine n_chk (drawF_ok (by decide +kernel)) ?_ | refine n_same rfl ?_ | ((first | refine n_must ?_ ?_ | refine n_brT ?_ ?_); (focus (first | (simp [h4]; done) | (simp [h4]; omega) | (simp only [h4]; simp; done)))) | (refine n_brF ?_ ?_; (focus (first | (simp [h4]; done) | (simp [h4]; omega) | (simp only [h4]; simp; done)))) | refine n_must (by (with_reducible refine and_shape ?_) <;> kernel_rfl) ?_); (refine gs ?_)))
  refine n_loop (σ := Nat) (fun i => [(0, .raw (pV p)), (1, .int .i64 r), (2, .raw (.slice o L.length cap)), (8, .int .i64 (freshN s r (L.take i) : Nat)), (39, .raw (.slice o L.length cap)), (40, .int .i64 (L.length : Nat)), (41, .int .i64 (i : Nat))]) (fun _ => [⟨97, [.res (viewsRes p mb nb s)], true⟩, ⟨104, [.res (readRes o (L.flatMap Vw.l))], false⟩]) (fun i => i ≤ L.length ∧ ∀ j, j < i → okAt L j = true) (fun i => L.length - i) 0 mixed ⟨by omega, by omega⟩ (fun _ _ => rfl) rfl (by (repeat (first | exact trivial | refine ⟨⟨rfl, rfl⟩, ?_⟩))) (fun s _ => ⟨by (repeat (first | exact trivial | refine ⟨⟨_, rfl⟩, ?_⟩)), by (repeat (first | exact trivial | refine ⟨⟨_, rfl⟩, ?_⟩))⟩) fun i hJ => ?_
  obtain ⟨hi, hJ⟩ := hJ
  (refine gs ?_)
  by_cases hlt : i < L.length
  · have ei : IntKind.i64.wrap ((i : Int) + 1) = ((i + 1 : Nat) : Int) := by rw [w64 (by omega) (by omega)]; simp
    obtain ⟨a, rfl⟩ := read_some hL (by omega)
    have hx : L[i]? = some L[i] := List.getElem?_eq_getElem _
    have hd : L.getD i Vw.zero = L[i] := by simp [List.getD, hx]
    generalize L[i] = x at hx hd
    refine gw ?_
    refine n_ldI (.agg x.sv) rfl rfl (fun _ w1 _ hI1 => read_row (hI1.res 1 rfl rfl) hx (by simp)) ?_
    (refine gs ?_)
    refine gw ?_
    refine n_sameP (.bool (rightB x)) rfl rfl rfl (fun _ w1 hp1 hI1 => right_ok x w1) ?_; (refine gs ?_)
    refine gw ?_
    by_cases hr1 : rightB x = true
    · have hnm : x.nm.size ≤ maxLen := by have := right_len hr1; unfold maxLen; omega
      have hkok : keyE.ok (r, x.nm) := ⟨by constructor <;> omega, hnm⟩
      (repeat ((first | refine n_must rfl ?_ | refine n_chk (drawF_ok (by decide +kernel)) ?_ | refine n_same rfl ?_ | ((first | refine n_must ?_ ?_ | refine n_brT ?_ ?_); (focus (first | (simp [hr1]; done) | (simp [hr1]; omega) | (simp only [hr1]; simp; done)))) | (refine n_brF ?_ ?_; (focus (first | (simp [hr1]; done) | (simp [hr1]; omega) | (simp only [hr1]; simp; done)))) | refine n_must (by (with_reducible refine and_shape ?_) <;> kernel_rfl) ?_); (refine gs ?_)))
      by_cases hi0 : i = 0
      · have hok : okAt L i = true := by subst hi0; simp only [okAt, hd, hr1]; rfl
        (repeat ((first | refine n_must rfl ?_ | refine n_chk (drawF_ok (by decide +kernel)) ?_ | refine n_same rfl ?_ | ((first | refine n_must ?_ ?_ | refine n_brT ?_ ?_); (focus (first | (simp [hi0]; done) | (simp [hi0]; omega) | (simp only [hi0]; simp; done)))) | (refine n_brF ?_ ?_; (focus (first | (simp [hi0]; done) | (simp [hi0]; omega) | (simp only [hi0]; simp; done)))) | refine n_must (by (with_reducible refine and_shape ?_) <;> kernel_rfl) ?_); (refine gs ?_)))
        refine gw ?_
        refine n_ldDI (.raw (.map (some mb))) rfl rfl (fun _ w1 _ hI1 => load_cell aggVMap (blk_at (hI1.res 0 rfl rfl).1 (j := 2) rfl rfl)) ?_
        (refine gs ?_)
        refine gw ?_
        refine n_both ?_ ?_
        · (refine gs ?_)
          refine gg ?_
          refine n_lookup (E := keyE) (ev' := vwV) (b := mb) (kr := .agg [.int .i64 r, .str x.nm]) (zr := .agg Vw.zero.sv) (z := Vw.zero.val) s.V (r, x.nm) (.tup [.agg (s.last r x.nm).sv, .bool (mget s.V (r, x.nm)).isSome]) keyK rfl rfl rfl rfl rfl rfl hkok rfl rfl (by rw [lkV]; rfl) (fun _ w1 _ hI1 => by exact (hI1.res 0 rfl rfl).2.1) ?_
          (refine gs ?_)
          refine gg ?_
          have hJ' : i + 1 ≤ L.length ∧ ∀ j, j < i + 1 → okAt L j = true := ⟨by omega, fun j hj => by
            rcases Nat.lt_or_ge j i with h | h
            · exact hJ j h
            · obtain rfl : j = i := by omega
              exact hok⟩
          have hfr := fresh_next (s := s) (r := r) hx
          have hfl : freshN s r (L.take i) ≤ i := by
            unfold freshN
            have := List.countP_le_length (p := fun x : Vw => !(mget s.V (r, x.nm)).isSome) (l := L.take i)
            rw [List.length_take] at this
            omega
          cases hm : (mget s.V (r, x.nm)).isSome with
          | true =>
            rw [hm] at hfr
            refine gw ?_
            exact n_again ⟨i + 1, hJ', by omega, (by (repeat (first | exact trivial | refine ⟨⟨rfl, rfl⟩, ?_⟩ | refine ⟨⟨rfl, congrArg (SV.int .i64) ei⟩, ?_⟩ | refine ⟨⟨rfl, congrArg (fun n : Nat => SV.int .i64 (n : Int)) hfr.symm⟩, ?_⟩))), ⟨_, rfl⟩⟩
          | false =>
            rw [hm] at hfr
            have ef : IntKind.i64.wrap ((freshN s r (L.take i) : Int) + 1) = ((freshN s r (L.take (i + 1)) : Nat) : Int) := by rw [w64 (by omega) (by omega), hfr]; simp
            refine gw ?_
            exact n_again ⟨i + 1, hJ', by omega, (by (repeat (first | exact trivial | refine ⟨⟨rfl, rfl⟩, ?_⟩ | refine ⟨⟨rfl, congrArg (SV.int .i64) ei⟩, ?_⟩ | refine ⟨⟨rfl, congrArg (SV.int .i64) ef⟩, ?_⟩))), ⟨_, rfl⟩⟩
        · (refine gs ?_)
          refine gg ?_
          refine n_ldRI (.raw (.map (some mb))) rfl (fun _ w1 _ hI1 => load_cell aggVMap (blk_at (hI1.res 0 rfl rfl).1 (j := 2) rfl rfl)) ?_
          (refine gs ?_)
          refine gg ?_
          refine n_lookup (E := keyE) (ev' := vwV) (b := mb) (kr := .agg [.int .i64 r, .str x.nm]) (zr := .agg Vw.zero.sv) (z := Vw.zero.val) s.V (r, x.nm) (.tup [.agg (s.last r x.nm).sv, .bool (mget s.V (r, x.nm)).isSome]) keyK rfl rfl rfl rfl rfl rfl hkok rfl rfl (by rw [lkV]; rfl) (fun _ w1 _ hI1 => by exact (hI1.res 0 rfl rfl).2.1) ?_
          (refine gs ?_)
          refine gg ?_
          have hJ' : i + 1 ≤ L.length ∧ ∀ j, j < i + 1 → okAt L j = true := ⟨by omega, fun j hj => by
            rcases Nat.lt_or_ge j i with h | h
            · exact hJ j h
            · obtain rfl : j = i := by omega
              exact hok⟩
          have hfr := fresh_next (s := s) (r := r) hx
          have hfl : freshN s r (L.take i) ≤ i := by
            unfold freshN
            have := List.countP_le_length (p := fun x : Vw => !(mget s.V (r, x.nm)).isSome) (l := L.take i)
            rw [List.length_take] at this
            omega
          cases hm : (mget s.V (r, x.nm)).isSome with
          | true =>
            rw [hm] at hfr
            refine gw ?_
            exact n_again ⟨i + 1, hJ', by omega, (by (repeat (first | exact trivial | refine ⟨⟨rfl, rfl⟩, ?_⟩ | refine ⟨⟨rfl, congrArg (SV.int .i64) ei⟩, ?_⟩ | refine ⟨⟨rfl, congrArg (fun n : Nat => SV.int .i64 (n : Int)) hfr.symm⟩, ?_⟩))), ⟨_, rfl⟩⟩
          | false =>
            rw [hm] at hfr
            have ef : IntKind.i64.wrap ((freshN s r (L.take i) : Int) + 1) = ((freshN s r (L.take (i + 1)) : Nat) : Int) := by rw [w64 (by omega) (by omega), hfr]; simp
            refine gw ?_
            exact n_again ⟨i + 1, hJ', by omega, (by (repeat (first | exact trivial | refine ⟨⟨rfl, rfl⟩, ?_⟩ | refine ⟨⟨rfl, congrArg (SV.int .i64) ei⟩, ?_⟩ | refine ⟨⟨rfl, congrArg (SV.int .i64) ef⟩, ?_⟩))), ⟨_, rfl⟩⟩
      · have em : IntKind.i64.wrap ((i : Int) - 1) = ((i - 1 : Nat) : Int) := by rw [w64 (by omega) (by omega)]; omega
        have hi1 : 0 < i := by omega
        have hx1 : L[i - 1]? = some L[i - 1] := List.getElem?_eq_getElem _
        have hd1 : L.getD (i - 1) Vw.zero = L[i - 1] := by simp only [List.getD, hx1]; rfl
        generalize L[i - 1] = y at hx1 hd1
        (repeat ((first | refine n_must rfl ?_ | refine n_chk (drawF_ok (by decide +kernel)) ?_ | refine n_same rfl ?_ | ((first | refine n_must ?_ ?_ | refine n_brT ?_ ?_); (focus (first | (simp [hi1, em]; done) | (simp [hi1, em]; omega) | (simp only [hi1, em]; simp; done)))) | (refine n_brF ?_ ?_; (focus (first | (simp [hi1, em]; done) | (simp [hi1, em]; omega) | (simp only [hi1, em]; simp; done)))) | refine n_must (by (with_reducible refine and_shape ?_) <;> kernel_rfl) ?_); (refine gs ?_)))
        refine n_ldDI (.str y.nm) rfl rfl (fun _ w1 _ hI1 => load_cell aggStr (read_cell (hI1.res 1 rfl rfl) hx1 (j := 0) rfl (by simp [em, add_add]))) ?_
        (refine gs ?_)
        refine gw ?_
        cases hlts : ltS y.nm x.nm with
        | true =>
          have hok : okAt L i = true := by simp only [okAt, hd, hd1, hr1, hlts, Bool.or_true, Bool.and_self]
          have hlts' : Op.bytesLess y.nm.toList x.nm.toList = true := hlts
          (repeat ((first | refine n_must rfl ?_ | refine n_chk (drawF_ok (by decide +kernel)) ?_ | refine n_same rfl ?_ | ((first | refine n_must ?_ ?_ | refine n_brT ?_ ?_); (focus (first | (simp [hlts']; done) | (simp [hlts']; omega) | (simp only [hlts']; simp; done)))) | (refine n_brF ?_ ?_; (focus (first | (simp [hlts']; done) | (simp [hlts']; omega) | (simp only [hlts']; simp; done)))) | refine n_must (by (with_reducible refine and_shape ?_) <;> kernel_rfl) ?_); (refine gs ?_)))
          refine gw ?_
          refine n_ldDI (.raw (.map (some mb))) rfl rfl (fun _ w1 _ hI1 => load_cell aggVMap (blk_at (hI1.res 0 rfl rfl).1 (j := 2) rfl rfl)) ?_
          (refine gs ?_)
          refine gw ?_
          refine n_both ?_ ?_
          · (refine gs ?_)
            refine gg ?_
            refine n_lookup (E := keyE) (ev' := vwV) (b := mb) (kr := .agg [.int .i64 r, .str x.nm]) (zr := .agg Vw.zero.sv) (z := Vw.zero.val) s.V (r, x.nm) (.tup [.agg (s.last r x.nm).sv, .bool (mget s.V (r, x.nm)).isSome]) keyK rfl rfl rfl rfl rfl rfl hkok rfl rfl (by rw [lkV]; rfl) (fun _ w1 _ hI1 => by exact (hI1.res 0 rfl rfl).2.1) ?_
            (refine gs ?_)
            refine gg ?_
            have hJ' : i + 1 ≤ L.length ∧ ∀ j, j < i + 1 → okAt L j = true := ⟨by omega, fun j hj => by
              rcases Nat.lt_or_ge j i with h | h
              · exact hJ j h
              · obtain rfl : j = i := by omega
                exact hok⟩
            have hfr := fresh_next (s := s) (r := r) hx
            have hfl : freshN s r (L.take i) ≤ i := by
              unfold freshN
              have := List.countP_le_length (p := fun x : Vw => !(mget s.V (r, x.nm)).isSome) (l := L.take i)
              rw [List.length_take] at this
              omega
            cases hm : (mget s.V (r, x.nm)).isSome with
            | true =>
              rw [hm] at hfr
              refine gw ?_
              exact n_again ⟨i + 1, hJ', by omega, (by (repeat (first | exact trivial | refine ⟨⟨rfl, rfl⟩, ?_⟩ | refine ⟨⟨rfl, congrArg (SV.int .i64) ei⟩, ?_⟩ | refine ⟨⟨rfl, congrArg (fun n : Nat => SV.int .i64 (n : Int)) hfr.symm⟩, ?_⟩))), ⟨_, rfl⟩⟩
            | false =>
              rw [hm] at hfr
              have ef : IntKind.i64.wrap ((freshN s r (L.take i) : Int) + 1) = ((freshN s r (L.take (i + 1)) : Nat) : Int) := by rw [w64 (by omega) (by omega), hfr]; simp
              refine gw ?_
              exact n_again ⟨i + 1, hJ', by omega, (by (repeat (first | exact trivial | refine ⟨⟨rfl, rfl⟩, ?_⟩ | refine ⟨⟨rfl, congrArg (SV.int .i64) ei⟩, ?_⟩ | refine ⟨⟨rfl, congrArg (SV.int .i64) ef⟩, ?_⟩))), ⟨_, rfl⟩⟩
          · (refine gs ?_)
            refine gg ?_
            refine n_ldRI (.raw (.map (some mb))) rfl (fun _ w1 _ hI1 => load_cell aggVMap (blk_at (hI1.res 0 rfl rfl).1 (j := 2) rfl rfl)) ?_
            (refine gs ?_)
            refine gg ?_
            refine n_lookup (E := keyE) (ev' := vwV) (b := mb) (kr := .agg [.int .i64 r, .str x.nm]) (zr := .agg Vw.zero.sv) (z := Vw.zero.val) s.V (r, x.nm) (.tup [.agg (s.last r x.nm).sv, .bool (mget s.V (r, x.nm)).isSome]) keyK rfl rfl rfl rfl rfl rfl hkok rfl rfl (by rw [lkV]; rfl) (fun _ w1 _ hI1 => by exact (hI1.res 0 rfl rfl).2.1) ?_
            (refine gs ?_)
            refine gg ?_
            have hJ' : i + 1 ≤ L.length ∧ ∀ j, j < i + 1 → okAt L j = true := ⟨by omega, fun j hj => by
              rcases Nat.lt_or_ge j i with h | h
              · exact hJ j h
              · obtain rfl : j = i := by omega
                exact hok⟩
            have hfr := fresh_next (s := s) (r := r) hx
            have hfl : freshN s r (L.take i) ≤ i := by
              unfold freshN
              have := List.countP_le_length (p := fun x : Vw => !(mget s.V (r, x.nm)).isSome) (l := L.take i)
              rw [List.length_take] at this
              omega
            cases hm : (mget s.V (r, x.nm)).isSome with
            | true =>
              rw [hm] at hfr
              refine gw ?_
              exact n_again ⟨i + 1, hJ', by omega, (by (repeat (first | exact trivial | refine ⟨⟨rfl, rfl⟩, ?_⟩ | refine ⟨⟨rfl, congrArg (SV.int .i64) ei⟩, ?_⟩ | refine ⟨⟨rfl, congrArg (fun n : Nat => SV.int .i64 (n : Int)) hfr.symm⟩, ?_⟩))), ⟨_, rfl⟩⟩
            | false =>
              rw [hm] at hfr
              have ef : IntKind.i64.wrap ((freshN s r (L.take i) : Int) + 1) = ((freshN s r (L.take (i + 1)) : Nat) : Int) := by rw [w64 (by omega) (by omega), hfr]; simp
              refine gw ?_
              exact n_again ⟨i + 1, hJ', by omega, (by (repeat (first | exact trivial | refine ⟨⟨rfl, rfl⟩, ?_⟩ | refine ⟨⟨rfl, congrArg (SV.int .i64) ei⟩, ?_⟩ | refine ⟨⟨rfl, congrArg (SV.int .i64) ef⟩, ?_⟩))), ⟨_, rfl⟩⟩
        | false =>
          have hlts' : Op.bytesLess y.nm.toList x.nm.toList = false := hlts
          have hok : okAt L i = false := by simp only [okAt, hd, hd1, hr1, hlts, Bool.true_and, Bool.or_false]; simp [hi0]
          (repeat ((first | refine n_must rfl ?_ | refine n_chk (drawF_ok (by decide +kernel)) ?_ | refine n_same rfl ?_ | ((first | refine n_must ?_ ?_ | refine n_brT ?_ ?_); (focus (first | (simp [hlts']; done) | (simp [hlts']; omega) | (simp only [hlts']; simp; done)))) | (refine n_brF ?_ ?_; (focus (first | (simp [hlts']; done) | (simp [hlts']; omega) | (simp only [hlts']; simp; done)))) | refine n_must (by (with_reducible refine and_shape ?_) <;> kernel_rfl) ?_); (refine gs ?_)))
          refine n_leave ?_
          have e : s.take r L = (s, 0, 1) := by rw [Vs.take, if_neg hno, if_neg h4, if_pos (goodL_false hlt hok)]
          rw [e]
          exact n_ret0 rfl rfl fun ids' w' hp hI' => ⟨rfl, post_res hI' rfl 0 rfl rfl rfl⟩
    · have hr0 : rightB x = false := by simpa using hr1
      have hok : okAt L i = false := by simp only [okAt, hd, hr0, Bool.false_and]
      (repeat ((first | refine n_must rfl ?_ | refine n_chk (drawF_ok (by decide +kernel)) ?_ | refine n_same rfl ?_ | ((first | refine n_must ?_ ?_ | refine n_brT ?_ ?_); (focus (first | (simp [hr0]; done) | (simp [hr0]; omega) | (simp only [hr0]; simp; done)))) | (refine n_brF ?_ ?_; (focus (first | (simp [hr0]; done) | (simp [hr0]; omega) | (simp only [hr0]; simp; done)))) | refine n_must (by (with_reducible refine and_shape ?_) <;> kernel_rfl) ?_); (refine gs ?_)))
      refine n_leave ?_
      have e : s.take r L = (s, 0, 1) := by rw [Vs.take, if_neg hno, if_neg h4, if_pos (goodL_false hlt hok)]
      rw [e]
      exact n_ret0 rfl rfl fun ids' w' hp hI' => ⟨rfl, post_res hI' rfl 0 rfl rfl rfl⟩
  · obtain rfl : i = L.length := by omega
    have hg := goodL_true hJ
    refine gw ?_
    refine n_exit rfl ?_
    (refine gs ?_)
    refine gw ?_
    rw [List.take_length]
    have hfl : freshN s r L ≤ L.length := List.countP_le_length
    generalize hF : freshN s r L = F at hfl
    have hrn : r.toNat < s.ns.length := by omega
    have hget : (s.ns.map intV)[r.toNat]? = some (.int .i64 (cnt s.ns r)) := by simp [cnt, List.getD, hrn]
    have ec : IntKind.i64.wrap (cnt s.ns r + (F : Int)) = cnt s.ns r + F := w64 (by omega) (by omega)
    refine n_ldI (.raw (.slice (some ⟨nb, 0, none⟩) s.ns.length s.ns.length)) rfl rfl (fun _ w1 _ hI1 => load_cell aggInts (blk_at (hI1.res 0 rfl rfl).1 (j := 3) rfl rfl)) ?_
    (refine gs ?_)
    refine gw ?_
    refine n_ldI (.int .i64 (cnt s.ns r)) rfl rfl (fun _ w1 _ hI1 => load_cell aggInt (blk_at (hI1.res 0 rfl rfl).2.2.1 (j := r.toNat) hget (by simp))) ?_
    (refine gs ?_)
    by_cases h5 : 64 < cnt s.ns r + F
    · (repeat ((first | refine n_must rfl ?_ | refine n_chk (drawF_ok (by decide +kernel)) ?_ | refine n_same rfl ?_ | ((first | refine n_must ?_ ?_ | refine n_brT ?_ ?_); (focus (first | (simp [ec, h5]; done) | (simp [ec, h5]; omega) | (simp only [ec, h5]; simp; done)))) | (refine n_brF ?_ ?_; (focus (first | (simp [ec, h5]; done) | (simp [ec, h5]; omega) | (simp only [ec, h5]; simp; done)))) | refine n_must (by (with_reducible refine and_shape ?_) <;> kernel_rfl) ?_); (refine gs ?_)))
      have e : s.take r L = (s, 0, 102) := by rw [Vs.take, if_neg hno, if_neg h4, if_neg (by simp [hg]), if_pos (by rw [hF]; exact h5)]
      rw [e]
      exact n_ret0 rfl rfl fun ids' w' hp hI' => ⟨rfl, post_res hI' rfl 0 rfl rfl rfl⟩
    · (repeat ((first | refine n_must rfl ?_ | refine n_chk (drawF_ok (by decide +kernel)) ?_ | refine n_same rfl ?_ | ((first | refine n_must ?_ ?_ | refine n_brT ?_ ?_); (focus (first | (simp [ec, h5]; done) | (simp [ec, h5]; omega) | (simp only [ec, h5]; simp; done)))) | (refine n_brF ?_ ?_; (focus (first | (simp [ec, h5]; done) | (simp [ec, h5]; omega) | (simp only [ec, h5]; simp; done)))) | refine n_must (by (with_reducible refine and_shape ?_) <;> kernel_rfl) ?_); (refine gs ?_)))
      have hinv := takes_inv (s := s) (r := r) (q := cnt s.ns r) ⟨hc.1, Int.le_refl _⟩ hrr L
      refine n_loop (σ := Nat) (fun i => [(0, .raw (pV p)), (1, .int .i64 r), (2, .raw (.slice o L.length cap)), (13, .int .i64 ((s.takes r (L.take i)).2 : Nat)), (91, .raw (.slice o L.length cap)), (92, .int .i64 (L.length : Nat)), (93, .int .i64 (i : Nat))]) (fun i => [⟨97, [.res (viewsRes p mb nb (s.takes r (L.take i)).1)], true⟩, ⟨104, [.res (readRes o (L.flatMap Vw.l))], false⟩]) (fun i => i ≤ L.length) (fun i => L.length - i) 0 mixed (by omega) (fun _ _ => rfl) rfl (by (repeat (first | exact trivial | refine ⟨⟨rfl, rfl⟩, ?_⟩))) (fun s _ => ⟨by (repeat (first | exact trivial | refine ⟨⟨_, rfl⟩, ?_⟩)), by (repeat (first | exact trivial | refine ⟨⟨_, rfl⟩, ?_⟩))⟩) fun i hi2 => ?_
      (refine gs ?_)
      by_cases hlt : i < L.length
      · have ei : IntKind.i64.wrap ((i : Int) + 1) = ((i + 1 : Nat) : Int) := by rw [w64 (by omega) (by omega)]; simp
        obtain ⟨a, rfl⟩ := read_some hL (by omega)
        have hx : L[i]? = some L[i] := List.getElem?_eq_getElem _
        have hd : L.getD i Vw.zero = L[i] := by simp [List.getD, hx]
        have hok := hJ i hlt
        obtain ⟨v1, v2, v3, v4, v5⟩ := hinv i hi2
        have hnx := takes_next (s := s) (r := r) hx
        simp only [okAt, hd, Bool.and_eq_true] at hok
        generalize L[i] = x at hx hd hnx hok
        have hnm : x.nm.size ≤ maxLen := by have := right_len hok.1; unfold maxLen; omega
        have hkok : keyE.ok (r, x.nm) := ⟨by constructor <;> omega, hnm⟩
        generalize s.takes r (L.take i) = T at v1 v2 v3 v4 v5 hnx
        obtain ⟨s1, k1⟩ := T
        dsimp only at v1 v2 v3 v4 v5
        have c1 : 0 ≤ r ∧ r < s1.ns.length := by omega
        have c2 : s1.ns.length ≤ 1000 := by omega
        have c3 : 0 ≤ cnt s1.ns r ∧ cnt s1.ns r ≤ 1000000 := by omega
        refine gw ?_
        refine n_ldI (.agg x.sv) rfl rfl (fun _ w1 _ hI1 => read_row (hI1.res 1 rfl rfl) hx (by simp)) ?_
        (refine gs ?_)
        refine gw ?_
        refine n_ldDI (.raw (.map (some mb))) rfl rfl (fun _ w1 _ hI1 => load_cell aggVMap (blk_at (hI1.res 0 rfl rfl).1 (j := 2) rfl rfl)) ?_
        (refine gs ?_)
        refine gw ?_
        refine n_lookup (E := keyE) (ev' := vwV) (b := mb) (kr := .agg [.int .i64 r, .str x.nm]) (zr := .agg Vw.zero.sv) (z := Vw.zero.val) s1.V (r, x.nm) (.agg (s1.last r x.nm).sv) keyK rfl rfl rfl rfl rfl rfl hkok rfl rfl (by rw [lkV]; rfl) (fun _ w1 _ hI1 => by exact (hI1.res 0 rfl rfl).2.1) ?_
        (refine gs ?_)
        refine gw ?_
        by_cases hv : (s1.last r x.nm).ver < x.ver
        · have e1 : Vs.take1 r (s1, k1) x = (s1.put r x, k1 + 1) := by rw [Vs.take1, if_pos hv]
          have ek : IntKind.i64.wrap ((k1 : Int) + 1) = ((k1 + 1 : Nat) : Int) := by rw [w64 (by omega) (by omega)]; simp
          rw [e1] at hnx
          (repeat ((first | refine n_must rfl ?_ | refine n_chk (drawF_ok (by decide +kernel)) ?_ | refine n_same rfl ?_ | ((first | refine n_must ?_ ?_ | refine n_brT ?_ ?_); (focus (first | (simp [hv]; done) | (simp [hv]; omega) | (simp only [hv]; simp; done)))) | (refine n_brF ?_ ?_; (focus (first | (simp [hv]; done) | (simp [hv]; omega) | (simp only [hv]; simp; done)))) | refine n_must (by (with_reducible refine and_shape ?_) <;> kernel_rfl) ?_); (refine gs ?_)))
          refine n_callR (Y := Unit) 0 (fun _ => viewsRes p mb nb (s1.put r x)) (fun _ => .tup []) (fun _ => .tuple #[]) (fun _ => True) rfl rfl (fun _ => rfl) rfl rfl rfl (fun _ w1 hp1 hI1 hR => (put_ok (s := s1) hR c1 c2 c3 x hnm).mono fun e w' ⟨he, hf⟩ => ⟨(), he, trivial, hf⟩) ?_
          intro _ _
          (refine gs ?_)
          refine gw ?_
          refine n_again ⟨i + 1, by omega, by omega, ?_, ?_⟩
          · rw [hnx]; exact (by (repeat (first | exact trivial | refine ⟨⟨rfl, rfl⟩, ?_⟩ | refine ⟨⟨rfl, congrArg (SV.int .i64) ei⟩, ?_⟩ | refine ⟨⟨rfl, congrArg (SV.int .i64) ek⟩, ?_⟩)))
          · rw [hnx]; exact ⟨_, rfl⟩
        · have e1 : Vs.take1 r (s1, k1) x = (s1, k1) := by rw [Vs.take1, if_neg hv]
          rw [e1] at hnx
          (repeat ((first | refine n_must rfl ?_ | refine n_chk (drawF_ok (by decide +kernel)) ?_ | refine n_same rfl ?_ | ((first | refine n_must ?_ ?_ | refine n_brT ?_ ?_); (focus (first | (simp [hv]; done) | (simp [hv]; omega) | (simp only [hv]; simp; done)))) | (refine n_brF ?_ ?_; (focus (first | (simp [hv]; done) | (simp [hv]; omega) | (simp only [hv]; simp; done)))) | refine n_must (by (with_reducible refine and_shape ?_) <;> kernel_rfl) ?_); (refine gs ?_)))
          refine n_again ⟨i + 1, by omega, by omega, ?_, ?_⟩
          · rw [hnx]; exact (by (repeat (first | exact trivial | refine ⟨⟨rfl, rfl⟩, ?_⟩ | refine ⟨⟨rfl, congrArg (SV.int .i64) ei⟩, ?_⟩)))
          · rw [hnx]; exact ⟨_, rfl⟩
      · obtain rfl : i = L.length := by omega
        rw [List.take_length]
        refine gw ?_
        refine n_exit rfl ?_
        (refine gs ?_)
        refine gw ?_
        have e : s.take r L = ((s.takes r L).1, ((s.takes r L).2 : Int), 0) := by rw [Vs.take, if_neg hno, if_neg h4, if_neg (by simp [hg]), if_neg (by rw [hF]; exact h5)]
        rw [e]
        exact n_ret0 rfl rfl fun ids' w' hp hI' => ⟨rfl, post_res hI' rfl 0 rfl rfl rfl⟩
end
section
set_option maxRecDepth 100000
set_option linter.unusedSimpArgs false
set_option linter.unusedVariables false
set_option maxHeartbeats 4000000
open Go.RowKit

theorem wr_add (a b : Int) : wr (wr a + b) = wr (a + b) := by
  unfold wr IntKind.wrap
  simp [IntKind.bits, IntKind.signed]
  repeat' split
  all_goals omega
def litB (b : Bool) : SV := match b with | true => .lit true | false => .lit false

/-! ### About -/
def aboutD (V : List ((Int × ByteArray) × Vw)) (nm : ByteArray) : Int := (V.map fun p => if p.1.2 = nm then p.2.d else 0).sum
def aboutN (V : List ((Int × ByteArray) × Vw)) (nm : ByteArray) : Int := (V.map fun p => if p.1.2 = nm then 1 else 0).sum
def nmOfK : Value → ByteArray
  | .agg cs => match (cs[1]? : Option Value) with | some (Value.string s) => s | _ => default
  | _ => default
def dOfV : Value → Int
  | .agg cs => match (cs[4]? : Option Value) with | some (Value.int _ n) => n | _ => 0
  | _ => 0
def fD (nm : ByteArray) (x : MapEntry) : Int := if nmOfK x.key = nm then dOfV x.val else 0
def fN (nm : ByteArray) (x : MapEntry) : Int := if nmOfK x.key = nm then 1 else 0
theorem entries_sum {es : Array MapEntry} {V : List ((Int × ByteArray) × Vw)} (h : es.toList.map (fun x => (x.key, x.val)) = V.map (fun p => (keyE.ek p.1, vwV p.2))) (nm : ByteArray) : (es.toList.map (fD nm)).sum = aboutD V nm ∧ (es.toList.map (fN nm)).sum = aboutN V nm := by
  have h1 := congrArg (List.map fun p : Value × Value => if nmOfK p.1 = nm then dOfV p.2 else 0) h
  have h2 := congrArg (List.map fun p : Value × Value => if nmOfK p.1 = nm then (1 : Int) else 0) h
  simp only [List.map_map] at h1 h2
  exact ⟨congrArg List.sum h1, congrArg List.sum h2⟩
theorem seenN_nonneg (nm : ByteArray) (es : Array MapEntry) (seen : Array Nat) : 0 ≤ seenSum (fN nm) es seen := by
  unfold seenSum
  induction es.toList with
  | nil => simp
  | cons a l ih =>
    simp only [List.map_cons, List.sum_cons]
    have : 0 ≤ (if seen.contains a.born = true then fN nm a else 0) := by unfold fN; split <;> first | split <;> omega | omega
    omega

theorem About_ok {p mb nb : Nat} {s : Vs} {w : World} (hR : (viewsRes p mb nb s).R w) (nm : ByteArray) (hnm : nm.size ≤ maxLen) :
    Calls Tryz.prog 51 #[pV p, .string nm] w fun e w' => e = .returned (.tuple #[.int .i64 (wr (aboutD s.V nm)), .bool (decide (0 < aboutN s.V nm))]) ∧ Frm [] w w' := by
  have hI : Inv (cx 31 [] [] w) w [0] [⟨97, [.res (viewsRes p mb nb s)], false⟩] := (Inv.nil w).consR (by simp) hR (viewsRes_lt hR) (by simp)
  refine calls_sm (cx 31 [] [] w) (vals := [.raw (pV p), .str nm]) mixed Tryz.func51 rfl rfl rfl hI rfl (st rfl ?_); conv => arg 3; whnf
  refine gg ?_
  refine n_ldI (.raw (.map (some mb))) rfl rfl (fun _ w1 _ hI1 => load_cell aggVMap (blk_at (hI1.res 0 rfl rfl).1 (j := 2) rfl rfl)) ?_
  (refine gs ?_)
  refine gg ?_
  refine n_range (E := keyE) (ev' := vwV) 0 (ρ := viewsRes p mb nb s) s.V 0 rfl rfl rfl rfl rfl rfl rfl (by simp [viewsRes]) (fun w h => h.2.1) ?_
  intro es clock it hst hes hit
  (refine gs ?_)
  have hpair : ∀ x ∈ es.toList, ∃ r n v, x.key = .agg #[.int .i64 r, .string n] ∧ x.val = Vw.val v := by
    intro x hx
    have := List.mem_map_of_mem (f := fun x : MapEntry => (x.key, x.val)) hx
    rw [hes] at this
    obtain ⟨⟨⟨r, n⟩, v⟩, h1, h2⟩ := List.mem_map.1 this
    simp only [Prod.mk.injEq] at h2
    exact ⟨r, n, v, h2.1.symm, h2.2.symm⟩
  obtain ⟨hsD, hsN⟩ := entries_sum hes nm
  refine n_loop (σ := Array Nat × Bool) (fun t => [(0, .raw (pV p)), (1, .str nm), (6, .int .i64 (wr (seenSum (fD nm) es t.1))), (7, litB t.2), (14, .raw (pV it))]) (fun t => [⟨97, [.res (mapAt (viewsRes p mb nb s) mb es clock (by simp [viewsRes]))], false⟩, ⟨0, [.res (iterRes it mb clock t.1 clock)], true⟩]) (fun t => t.2 = decide (0 < seenSum (fN nm) es t.1)) (fun t => leftN es t.1) (#[], false) mixed (by simp [seenSum_none]) (fun _ _ => rfl) rfl ?_ (fun t _ => ⟨by obtain ⟨_, b⟩ := t; cases b <;> (repeat (first | exact trivial | refine ⟨⟨_, rfl⟩, ?_⟩)), by (repeat (first | exact trivial | refine ⟨⟨_, rfl⟩, ?_⟩))⟩) fun t hJ => ?_
  · exact (by (repeat (first | exact trivial | refine ⟨⟨rfl, rfl⟩, ?_⟩ | refine ⟨⟨rfl, by rw [seenSum_none]; rfl⟩, ?_⟩)))
  obtain ⟨seen, b⟩ := t
  dsimp only at hJ ⊢
  cases b
  · (refine gs ?_)
    refine n_next 0 1 (es := es) (clock := clock) (ρ := viewsRes p mb nb s) rfl rfl hst rfl rfl rfl rfl rfl rfl (fun hall => ?_) (fun x1 hx1 hns => ?_)
    · (refine gs ?_)
      refine gg ?_
      refine n_exit rfl ?_
      (refine gs ?_)
      refine gg ?_
      rw [← hsD, ← hsN, ← seenSum_all (f := fD nm) hall, ← seenSum_all (f := fN nm) hall, ← hJ]
      exact n_ret0 rfl rfl fun ids' w' hp hI' => ⟨rfl, hI'.frm⟩
    · obtain ⟨r, n, v, hk, hv⟩ := hpair x1 hx1
      have pD := seenSum_push (f := fD nm) hst hx1 hns
      have pN := seenSum_push (f := fN nm) hst hx1 hns
      have h0 := seenN_nonneg nm es seen
      have eD : fD nm x1 = if n = nm then v.d else 0 := by unfold fD; rw [hk, hv]; rfl
      have eN : fN nm x1 = if n = nm then 1 else 0 := by unfold fN; rw [hk]; rfl
      (refine gs ?_)
      refine gg ?_
      refine n_entry 0 1 (es := es) (ρ := viewsRes p mb nb s) x1 (.tup [.agg [.int .i64 r, .str n], .agg v.sv]) rfl rfl hst hx1 rfl rfl rfl rfl rfl (by rw [hk, hv]; rfl) ?_
      (refine gs ?_)
      refine gg ?_
      by_cases hn : n = nm
      · rw [if_pos hn] at eD eN
        rw [eD] at pD
        rw [eN] at pN
        have eS : IntKind.i64.wrap (wr (seenSum (fD nm) es seen) + v.d) = wr (seenSum (fD nm) es (seen.push x1.born)) := by rw [pD]; exact wr_add _ _
        refine n_brT (by rw [bytes_eq]; simp [hn]) ?_
        (refine gs ?_)
        refine gw ?_
        exact n_again ⟨(seen.push x1.born, true), by dsimp only; rw [pN]; symm; exact decide_eq_true (by omega), leftN_lt hx1 hns, (by (repeat (first | exact trivial | refine ⟨⟨rfl, rfl⟩, ?_⟩ | refine ⟨⟨rfl, congrArg (SV.int .i64) eS⟩, ?_⟩))), ⟨_, rfl⟩⟩
      · rw [if_neg hn] at eD eN
        rw [eD, Int.add_zero] at pD
        rw [eN, Int.add_zero] at pN
        refine n_brF (by rw [bytes_eq]; simp [hn]) ?_
        (refine gs ?_)
        refine gw ?_
        exact n_again ⟨(seen.push x1.born, false), by dsimp only; rw [pN]; exact hJ, leftN_lt hx1 hns, (by (repeat (first | exact trivial | refine ⟨⟨rfl, rfl⟩, ?_⟩ | refine ⟨⟨rfl, congrArg (fun q : Int => SV.int .i64 (wr q)) pD.symm⟩, ?_⟩))), ⟨_, rfl⟩⟩
  · (refine gs ?_)
    refine n_next 0 1 (es := es) (clock := clock) (ρ := viewsRes p mb nb s) rfl rfl hst rfl rfl rfl rfl rfl rfl (fun hall => ?_) (fun x1 hx1 hns => ?_)
    · (refine gs ?_)
      refine gg ?_
      refine n_exit rfl ?_
      (refine gs ?_)
      refine gg ?_
      rw [← hsD, ← hsN, ← seenSum_all (f := fD nm) hall, ← seenSum_all (f := fN nm) hall, ← hJ]
      exact n_ret0 rfl rfl fun ids' w' hp hI' => ⟨rfl, hI'.frm⟩
    · obtain ⟨r, n, v, hk, hv⟩ := hpair x1 hx1
      have pD := seenSum_push (f := fD nm) hst hx1 hns
      have pN := seenSum_push (f := fN nm) hst hx1 hns
      have h0 := seenN_nonneg nm es seen
      have eD : fD nm x1 = if n = nm then v.d else 0 := by unfold fD; rw [hk, hv]; rfl
      have eN : fN nm x1 = if n = nm then 1 else 0 := by unfold fN; rw [hk]; rfl
      (refine gs ?_)
      refine gg ?_
      refine n_entry 0 1 (es := es) (ρ := viewsRes p mb nb s) x1 (.tup [.agg [.int .i64 r, .str n], .agg v.sv]) rfl rfl hst hx1 rfl rfl rfl rfl rfl (by rw [hk, hv]; rfl) ?_
      (refine gs ?_)
      refine gg ?_
      by_cases hn : n = nm
      · rw [if_pos hn] at eD eN
        rw [eD] at pD
        rw [eN] at pN
        have eS : IntKind.i64.wrap (wr (seenSum (fD nm) es seen) + v.d) = wr (seenSum (fD nm) es (seen.push x1.born)) := by rw [pD]; exact wr_add _ _
        refine n_brT (by rw [bytes_eq]; simp [hn]) ?_
        (refine gs ?_)
        refine gw ?_
        exact n_again ⟨(seen.push x1.born, true), by dsimp only; rw [pN]; symm; exact decide_eq_true (by omega), leftN_lt hx1 hns, (by (repeat (first | exact trivial | refine ⟨⟨rfl, rfl⟩, ?_⟩ | refine ⟨⟨rfl, congrArg (SV.int .i64) eS⟩, ?_⟩))), ⟨_, rfl⟩⟩
      · rw [if_neg hn] at eD eN
        rw [eD, Int.add_zero] at pD
        rw [eN, Int.add_zero] at pN
        refine n_brF (by rw [bytes_eq]; simp [hn]) ?_
        (refine gs ?_)
        refine gw ?_
        exact n_again ⟨(seen.push x1.born, true), by dsimp only; rw [pN]; exact hJ, leftN_lt hx1 hns, (by (repeat (first | exact trivial | refine ⟨⟨rfl, rfl⟩, ?_⟩ | refine ⟨⟨rfl, congrArg (fun q : Int => SV.int .i64 (wr q)) pD.symm⟩, ?_⟩))), ⟨_, rfl⟩⟩

/-! ### Known -/
def knownF (V : List ((Int × ByteArray) × Vw)) (nm : ByteArray) (i : Nat) : Int × Int := (((mget V ((i : Int), nm)).getD Vw.zero).d, ((mget V ((i : Int), nm)).getD Vw.zero).u)
def knownL (V : List ((Int × ByteArray) × Vw)) (nm : ByteArray) (n : Nat) : List (Int × Int) := (List.range n).map (knownF V nm)
abbrev rtL (x : Int × Int) : List Value := [.int .i64 x.1, .int .i64 x.2]
theorem rt_len (x : Int × Int) : (rtL x).length = 2 := rfl
theorem rtInfo : (Tryz.prog.info? 37).map (fun i => (i.zero, i.size, i.bytes)) = some (some (.agg #[.int .i64 0, .int .i64 0]), 2, 16) := by kernel_rfl
theorem sizeRt : sizeB Tryz.prog 37 = some 2 := by kernel_rfl
/-- What is known as far as the first i replicas. -/
def knownT (V : List ((Int × ByteArray) × Vw)) (nm : ByteArray) (n i : Nat) : List (Int × Int) := (List.range n).map fun j => if j < i then knownF V nm j else (0, 0)
theorem knownT_0 (V : List ((Int × ByteArray) × Vw)) (nm : ByteArray) (n : Nat) : (knownT V nm n 0).flatMap rtL = (List.replicate n [Value.int .i64 0, Value.int .i64 0]).flatten := by
  unfold knownT
  simp only [Nat.not_lt_zero, if_false, List.flatMap_map]
  induction n with
  | zero => rfl
  | succ n ih => rw [List.range_succ, List.replicate_succ']; simp [List.flatMap_append, ih]
theorem knownT_n (V : List ((Int × ByteArray) × Vw)) (nm : ByteArray) (n : Nat) : knownT V nm n n = knownL V nm n := by
  unfold knownT knownL
  exact List.map_congr_left fun j hj => by rw [if_pos (List.mem_range.1 hj)]
theorem knownT_set (V : List ((Int × ByteArray) × Vw)) (nm : ByteArray) (n i : Nat) (hi : i < n) : (knownT V nm n i).set i (knownF V nm i) = knownT V nm n (i + 1) := by
  unfold knownT
  apply List.ext_getElem
  · simp
  · intro j h1 h2
    simp only [List.getElem_set, List.getElem_map, List.getElem_range]
    by_cases e : i = j
    · subst e; simp
    · rw [if_neg e]
      by_cases h : j < i
      · rw [if_pos h, if_pos (by omega)]
      · rw [if_neg h, if_neg (by omega)]

theorem Known_ok {p mb nb : Nat} {s : Vs} {w : World} (hR : (viewsRes p mb nb s).R w) (hl : s.ns.length ≤ 1000) (nm : ByteArray) (hnm : nm.size ≤ maxLen) :
    Calls Tryz.prog 37 #[pV p, .string nm] w fun e w' => ∃ y : Nat, e = .returned (.slice (some ⟨y, 0, none⟩) s.ns.length s.ns.length) ∧ True ∧ FreshR w w' (cellsRes y ((knownL s.V nm s.ns.length).flatMap rtL) 37) := by
  obtain ⟨it, hit, hparts⟩ := Option.map_eq_some_iff.1 rtInfo
  simp only [Prod.mk.injEq] at hparts
  have hI : Inv (cx 31 [] [] w) w [0] [⟨97, [.res (viewsRes p mb nb s)], false⟩] := (Inv.nil w).consR (by simp) hR (viewsRes_lt hR) (by simp)
  generalize hn : s.ns.length = n at hl
  refine calls_sm (cx 31 [] [] w) (vals := [.raw (pV p), .str nm]) mixed Tryz.func37 rfl rfl rfl hI rfl (st rfl ?_); conv => arg 3; whnf
  refine gg ?_
  refine n_ldI (.int .i64 (n : Nat)) rfl rfl (fun _ w1 _ hI1 => load_cell aggInt (blk_at (hI1.res 0 rfl rfl).1 (j := 1) (by rw [← hn]; rfl) rfl)) ?_
  (refine gs ?_)
  refine gg ?_
  refine n_makeSlice (n := n) 37 rfl rfl rfl Tryz.underlying90 hit hparts.1 (by rw [hparts.2.1]; rfl) hparts.2.2 rfl rfl (by omega) (by omega) fun y hy => ?_
  (refine gs ?_)
  refine gg ?_
  rw [show (List.replicate n (Value.agg #[.int .i64 0, .int .i64 0]).cells.toList).flatten = (knownT s.V nm n 0).flatMap rtL from (knownT_0 s.V nm n).symm]
  refine n_loop (σ := Nat) (fun i => [(0, .raw (pV p)), (1, .str nm), (5, .raw (.slice (some ⟨y, 0, none⟩) n n)), (13, .int .i64 (n : Nat)), (14, .int .i64 (i : Nat))]) (fun i => [⟨97, [.res (viewsRes p mb nb s)], false⟩, ⟨37, [.res (cellsRes y ((knownT s.V nm n i).flatMap rtL) 37)], true⟩]) (fun i => i ≤ n) (fun i => n - i) 0 mixed (by omega) (fun _ _ => rfl) rfl (by (repeat (first | exact trivial | refine ⟨⟨rfl, rfl⟩, ?_⟩))) (fun s _ => ⟨by (repeat (first | exact trivial | refine ⟨⟨_, rfl⟩, ?_⟩)), by (repeat (first | exact trivial | refine ⟨⟨_, rfl⟩, ?_⟩))⟩) fun i hi => ?_
  (refine gs ?_)
  by_cases hlt : i < n
  · have ei : IntKind.i64.wrap ((i : Int) + 1) = ((i + 1 : Nat) : Int) := by rw [w64 (by omega) (by omega)]; simp
    have hkok : keyE.ok ((i : Int), nm) := ⟨by constructor <;> omega, hnm⟩
    have hlen : (knownT s.V nm n i).length = n := by simp [knownT]
    refine gw ?_
    refine n_ldI (.raw (.map (some mb))) rfl rfl (fun _ w1 _ hI1 => load_cell aggVMap (blk_at (hI1.res 0 rfl rfl).1 (j := 2) rfl rfl)) ?_
    (refine gs ?_)
    refine gw ?_
    refine n_lookup (E := keyE) (ev' := vwV) (b := mb) (kr := .agg [.int .i64 (i : Nat), .str nm]) (zr := .agg Vw.zero.sv) (z := Vw.zero.val) s.V ((i : Int), nm) (.agg ((mget s.V ((i : Int), nm)).getD Vw.zero).sv) keyK rfl rfl rfl rfl rfl rfl hkok rfl rfl (by rw [lkV]; rfl) (fun _ w1 _ hI1 => by exact (hI1.res 0 rfl rfl).2.1) ?_
    (refine gs ?_)
    refine gw ?_
    refine n_storeA (n := y) (off := i * 2) (k := 2) (l := (knownT s.V nm n i).flatMap rtL) (rv := .agg [.int .i64 (knownF s.V nm i).1, .int .i64 (knownF s.V nm i).2]) (v := .agg #[.int .i64 (knownF s.V nm i).1, .int .i64 (knownF s.V nm i).2]) 1 (cellsRes y ((knownT s.V nm n (i + 1)).flatMap rtL) 37) ((knownT s.V nm n (i + 1)).flatMap rtL) rfl rfl rfl (by rw [add_mk]; simp) rfl rfl sizeRt rfl rfl rfl rfl rfl (by simp [cellsRes]) (fun w h => h) (by rw [flat_len rt_len, hlen]; omega) (by rw [← knownT_set s.V nm n i hlt]; exact flat_set rt_len (by rw [hlen]; exact hlt)) (fun w w' h hf hb => hb) (by simp [cellsRes]) ?_
    (refine gs ?_)
    refine gw ?_
    exact n_again ⟨i + 1, by omega, by omega, (by (repeat (first | exact trivial | refine ⟨⟨rfl, rfl⟩, ?_⟩ | refine ⟨⟨rfl, congrArg (SV.int .i64) ei⟩, ?_⟩))), ⟨_, rfl⟩⟩
  · obtain rfl : i = n := by omega
    refine gw ?_
    refine n_exit rfl ?_
    (refine gs ?_)
    refine gw ?_
    rw [knownT_n]
    exact n_ret0 rfl rfl fun ids' w' hp hI' => ⟨y, rfl, trivial, hI'.frm, hI'.res 1 rfl rfl, hI'.res_new 1 rfl rfl rfl (by simp), hI'.resLt 1 rfl rfl⟩
end
end Go.Proofs.YtglafgpjgkphkaaGreatDoor
