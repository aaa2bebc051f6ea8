/- Package views: Take. -/
import Derived.Test.YtcpecnpnnodfhaaVwC
import Derived.Test.YtcpecnpnnodfhaaBnU
set_option maxRecDepth 100000
set_option linter.unusedSimpArgs false
set_option linter.unusedVariables false
set_option maxHeartbeats 4000000
namespace Go.Proofs.Ytcpecnpnnodfhaa
open Go.RowKit

theorem vw_len (x : Vw) : x.l.length = 7 := rfl
theorem aggView : aggB Try.prog 49 = some true := by kernel_rfl
theorem sizeView : sizeB Try.prog 49 = some 7 := by kernel_rfl
theorem read_some {o : Option Addr} {L : List Vw} {w : World} (h : (readRes o (L.flatMap Vw.l)).R w) (hn : 0 < L.length) : ∃ a, o = some a := rd_some vw_len (by omega) h hn
theorem read_cell {a : Addr} {L : List Vw} {w : World} (h : (readRes (some a) (L.flatMap Vw.l)).R w) {i : Nat} {x : Vw} (hx : L[i]? = some x) {j : Nat} {u : Value} (hu : x.l[j]? = some u) {ad : Addr} (had : ad = a.add (i * 7 + j)) : w.cell? ad = some u :=
  rd_at vw_len h hx (by have := (List.getElem?_eq_some_iff.1 hu).1; simpa using this) hu had
theorem read_row {a : Addr} {L : List Vw} {w : World} (h : (readRes (some a) (L.flatMap Vw.l)).R w) {i : Nat} {x : Vw} (hx : L[i]? = some x) {ad : Addr} (had : ad = a.add (i * 7)) : (loadVar 49 ad).run Try.prog w = .ok x.val w :=
  load_row (l := x.l) aggView sizeView fun j u hu => read_cell h hx hu (by rw [had, add_add])

/-! ### What Take does -/
def ltS (a b : ByteArray) : Bool := Op.bytesLess a.toList b.toList
def okAt (L : List Vw) (i : Nat) : Bool := rightB (L.getD i Vw.zero) && (i == 0 || ltS (L.getD (i - 1) Vw.zero).nm (L.getD i Vw.zero).nm)
def goodL (L : List Vw) : Bool := (List.range L.length).all (okAt L)
def freshN (s : Vs) (r : Int) (L : List Vw) : Nat := L.countP fun x => !(mget s.V (r, x.nm)).isSome
def Vs.take1 (r : Int) (a : Vs × Nat) (x : Vw) : Vs × Nat := if (a.1.last r x.nm).ver < x.ver then (a.1.put r x, a.2 + 1) else a
def Vs.takes (s : Vs) (r : Int) (L : List Vw) : Vs × Nat := L.foldl (Vs.take1 r) (s, 0)
def Vs.take (s : Vs) (r : Int) (L : List Vw) : Vs × Int × Int :=
  if r < 0 ∨ (s.ns.length : Int) ≤ r ∨ r = s.me then (s, 0, 3) else if 64 < L.length then (s, 0, 2) else if goodL L = false then (s, 0, 1) else
  if 64 < cnt s.ns r + freshN s r L then (s, 0, 102) else ((s.takes r L).1, ((s.takes r L).2 : Int), 0)

theorem right_len {x : Vw} (h : rightB x = true) : x.nm.size ≤ 16 := by
  simp only [rightB, namedB, Bool.and_eq_true, decide_eq_true_eq] at h
  exact h.1.1.2
theorem put_cnt {s : Vs} {r : Int} {x : Vw} {q : Int} (h : 0 ≤ cnt s.ns r ∧ cnt s.ns r ≤ q) (hr : 0 ≤ r ∧ r < s.ns.length) : 0 ≤ cnt (s.put r x).ns r ∧ cnt (s.put r x).ns r ≤ q + 1 := by
  unfold Vs.put
  dsimp only
  split
  · omega
  · have e : cnt (s.ns.set r.toNat (cnt s.ns r + 1)) r = cnt s.ns r + 1 := by
      have : r.toNat < s.ns.length := by omega
      simp [cnt, List.getD, this]
    rw [e]; omega
theorem takes_next {s : Vs} {r : Int} {L : List Vw} {i : Nat} {x : Vw} (hx : L[i]? = some x) : s.takes r (L.take (i + 1)) = Vs.take1 r (s.takes r (L.take i)) x := by
  unfold Vs.takes
  rw [List.take_add_one, hx]
  simp
theorem take1_inv {r : Int} {a : Vs × Nat} {x : Vw} {q : Int} {n : Nat} {me : Int} (h : a.1.ns.length = n ∧ a.1.me = me ∧ 0 ≤ cnt a.1.ns r ∧ cnt a.1.ns r ≤ q) (hr : 0 ≤ r ∧ r < n) :
    (Vs.take1 r a x).1.ns.length = n ∧ (Vs.take1 r a x).1.me = me ∧ 0 ≤ cnt (Vs.take1 r a x).1.ns r ∧ cnt (Vs.take1 r a x).1.ns r ≤ q + 1 := by
  unfold Vs.take1
  split
  · dsimp only
    have := put_cnt (x := x) ⟨h.2.2.1, h.2.2.2⟩ (r := r) (by omega)
    exact ⟨(Vs.put_len _ _ _).trans h.1, h.2.1, this⟩
  · omega
theorem takes_inv {s : Vs} {r : Int} {q : Int} (hc : 0 ≤ cnt s.ns r ∧ cnt s.ns r ≤ q) (hr : 0 ≤ r ∧ r < s.ns.length) (L : List Vw) : ∀ i, i ≤ L.length → (s.takes r (L.take i)).1.ns.length = s.ns.length ∧ (s.takes r (L.take i)).1.me = s.me ∧ 0 ≤ cnt (s.takes r (L.take i)).1.ns r ∧ cnt (s.takes r (L.take i)).1.ns r ≤ q + i ∧ (s.takes r (L.take i)).2 ≤ i
  | 0, _ => by simp [Vs.takes]; omega
  | i + 1, hi => by
    have ih := takes_inv hc hr L i (by omega)
    have hx : L[i]? = some L[i] := List.getElem?_eq_getElem _
    rw [takes_next hx]
    have h2 := take1_inv (x := L[i]) ⟨ih.1, ih.2.1, ih.2.2.1, ih.2.2.2.1⟩ hr
    refine ⟨h2.1, h2.2.1, h2.2.2.1, by omega, ?_⟩
    unfold Vs.take1
    split
    · dsimp only; omega
    · omega
theorem fresh_next {s : Vs} {r : Int} {L : List Vw} {i : Nat} {x : Vw} (hx : L[i]? = some x) : freshN s r (L.take (i + 1)) = freshN s r (L.take i) + if (mget s.V (r, x.nm)).isSome then 0 else 1 := by
  unfold freshN
  rw [List.take_add_one, hx]
  simp [List.countP_append, List.countP_cons]
  cases mget s.V (r, x.nm) <;> simp
theorem goodL_true {L : List Vw} (h : ∀ j, j < L.length → okAt L j = true) : goodL L = true := by
  unfold goodL
  simp only [List.all_eq_true, List.mem_range]
  exact h
theorem goodL_false {L : List Vw} {i : Nat} (hi : i < L.length) (h : okAt L i = false) : goodL L = false := by
  unfold goodL
  rw [Bool.eq_false_iff]
  intro hc
  simp only [List.all_eq_true, List.mem_range] at hc
  rw [hc i hi] at h; cases h

theorem Take_ok {p mb nb : Nat} {s : Vs} {w : World} (hR : (viewsRes p mb nb s).R w) (hl : s.ns.length ≤ 1000) (r : Int) (hr : i64 r) (hc : 0 ≤ cnt s.ns r ∧ cnt s.ns r ≤ 500000) {o : Option Addr} {L : List Vw} (cap : Nat) (hL : (readRes o (L.flatMap Vw.l)).R w) (hLlt : ∀ x ∈ (readRes o (L.flatMap Vw.l)).fp, x < w.heap.size) (hap : ∀ x ∈ (viewsRes p mb nb s).fp, x ∉ (readRes o (L.flatMap Vw.l)).fp) :
    Calls Try.prog 21 #[pV p, .int .i64 r, .slice o L.length cap] w fun e w' => e = .returned (.tuple #[.int .i64 (s.take r L).2.1, .int .i64 (s.take r L).2.2]) ∧ Post (viewsRes p mb nb s) (viewsRes p mb nb (s.take r L).1) w w' := by
  have hI : Inv (cx 118 [(11, .then [(0, []), (1, []), (2, []), (3, []), (4, []), (5, []), (6, []), (7, [])] (.fork 8 [] (.of [(9, []), (10, []), (11, []), (12, []), (13, []), (14, [])]) (.cons 12 [6, 3] (.of [(8, []), (9, []), (10, []), (11, []), (13, []), (14, [])])))), (21, .of [(0, []), (1, []), (2, []), (3, []), (4, []), (5, []), (6, []), (7, []), (8, []), (9, []), (10, [1]), (11, []), (12, [])])] (viewsRes p mb nb s).fp w) w [0, 0] [⟨84, [.res (viewsRes p mb nb s)], true⟩, ⟨49, [.res (readRes o (L.flatMap Vw.l))], false⟩] :=
    ((Inv.nil w).consR (by simp) hR (viewsRes_lt hR) (by simp)).consR (by intro x hx hm; simp at hm; exact hap x hm hx) hL hLlt (by simp)
  refine calls_sm (cx 118 [(11, .then [(0, []), (1, []), (2, []), (3, []), (4, []), (5, []), (6, []), (7, [])] (.fork 8 [] (.of [(9, []), (10, []), (11, []), (12, []), (13, []), (14, [])]) (.cons 12 [6, 3] (.of [(8, []), (9, []), (10, []), (11, []), (13, []), (14, [])])))), (21, .of [(0, []), (1, []), (2, []), (3, []), (4, []), (5, []), (6, []), (7, []), (8, []), (9, []), (10, [1]), (11, []), (12, [])])] (viewsRes p mb nb s).fp w) (vals := [.raw (pV p), .int .i64 r, .raw (.slice o L.length cap)]) mixed Try.func21 rfl rfl rfl hI rfl (st rfl ?_); conv => arg 3; whnf
  by_cases h1 : r < 0
  · (repeat ((first | refine n_must rfl ?_ | refine n_chk (drawF_ok (by decide +kernel)) ?_ | refine n_same rfl ?_ | ((first | refine n_must ?_ ?_ | refine n_brT ?_ ?_); (focus (first | (simp [h1]; done) | (simp [h1]; omega) | (simp only [h1]; simp; done)))) | (refine n_brF ?_ ?_; (focus (first | (simp [h1]; done) | (simp [h1]; omega) | (simp only [h1]; simp; done)))) | refine n_must (by (with_reducible refine and_shape ?_) <;> kernel_rfl) ?_); (refine gs ?_)))
    have e : s.take r L = (s, 0, 3) := by rw [Vs.take, if_pos (.inl h1)]
    rw [e]
    exact n_ret0 rfl rfl fun ids' w' hp hI' => ⟨rfl, post_res hI' rfl 0 rfl rfl rfl⟩
  (repeat ((first | refine n_must rfl ?_ | refine n_chk (drawF_ok (by decide +kernel)) ?_ | refine n_same rfl ?_ | ((first | refine n_must ?_ ?_ | refine n_brT ?_ ?_); (focus (first | (simp [h1]; done) | (simp [h1]; omega) | (simp only [h1]; simp; done)))) | (refine n_brF ?_ ?_; (focus (first | (simp [h1]; done) | (simp [h1]; omega) | (simp only [h1]; simp; done)))) | refine n_must (by (with_reducible refine and_shape ?_) <;> kernel_rfl) ?_); (refine gs ?_)))
  refine n_ldI (.int .i64 (s.ns.length : Nat)) rfl rfl (fun _ w1 _ hI1 => load_cell aggInt (blk_at (hI1.res 0 rfl rfl).1 (j := 1) rfl rfl)) ?_
  (refine gs ?_)
  by_cases h2 : (s.ns.length : Int) ≤ r
  · (repeat ((first | refine n_must rfl ?_ | refine n_chk (drawF_ok (by decide +kernel)) ?_ | refine n_same rfl ?_ | ((first | refine n_must ?_ ?_ | refine n_brT ?_ ?_); (focus (first | (simp [h2]; done) | (simp [h2]; omega) | (simp only [h2]; simp; done)))) | (refine n_brF ?_ ?_; (focus (first | (simp [h2]; done) | (simp [h2]; omega) | (simp only [h2]; simp; done)))) | refine n_must (by (with_reducible refine and_shape ?_) <;> kernel_rfl) ?_); (refine gs ?_)))
    have e : s.take r L = (s, 0, 3) := by rw [Vs.take, if_pos (.inr (.inl h2))]
    rw [e]
    exact n_ret0 rfl rfl fun ids' w' hp hI' => ⟨rfl, post_res hI' rfl 0 rfl rfl rfl⟩
  (repeat ((first | refine n_must rfl ?_ | refine n_chk (drawF_ok (by decide +kernel)) ?_ | refine n_same rfl ?_ | ((first | refine n_must ?_ ?_ | refine n_brT ?_ ?_); (focus (first | (simp [h2]; done) | (simp [h2]; omega) | (simp only [h2]; simp; done)))) | (refine n_brF ?_ ?_; (focus (first | (simp [h2]; done) | (simp [h2]; omega) | (simp only [h2]; simp; done)))) | refine n_must (by (with_reducible refine and_shape ?_) <;> kernel_rfl) ?_); (refine gs ?_)))
  refine n_ldI (.int .i64 s.me) rfl rfl (fun _ w1 _ hI1 => load_cell aggInt (blk_at (hI1.res 0 rfl rfl).1 (j := 0) rfl rfl)) ?_
  (refine gs ?_)
  by_cases h3 : r = s.me
  · (repeat ((first | refine n_must rfl ?_ | refine n_chk (drawF_ok (by decide +kernel)) ?_ | refine n_same rfl ?_ | ((first | refine n_must ?_ ?_ | refine n_brT ?_ ?_); (focus (first | (simp [h3]; done) | (simp [h3]; omega) | (simp only [h3]; simp; done)))) | (refine n_brF ?_ ?_; (focus (first | (simp [h3]; done) | (simp [h3]; omega) | (simp only [h3]; simp; done)))) | refine n_must (by (with_reducible refine and_shape ?_) <;> kernel_rfl) ?_); (refine gs ?_)))
    have e : s.take r L = (s, 0, 3) := by rw [Vs.take, if_pos (.inr (.inr h3))]
    rw [e]
    exact n_ret0 rfl rfl fun ids' w' hp hI' => ⟨rfl, post_res hI' rfl 0 rfl rfl rfl⟩
  (repeat ((first | refine n_must rfl ?_ | refine n_chk (drawF_ok (by decide +kernel)) ?_ | refine n_same rfl ?_ | ((first | refine n_must ?_ ?_ | refine n_brT ?_ ?_); (focus (first | (simp [h3]; done) | (simp [h3]; omega) | (simp only [h3]; simp; done)))) | (refine n_brF ?_ ?_; (focus (first | (simp [h3]; done) | (simp [h3]; omega) | (simp only [h3]; simp; done)))) | refine n_must (by (with_reducible refine and_shape ?_) <;> kernel_rfl) ?_); (refine gs ?_)))
  have hno : ¬ (r < 0 ∨ (s.ns.length : Int) ≤ r ∨ r = s.me) := by omega
  have hrr : 0 ≤ r ∧ r < s.ns.length := by omega
  by_cases h4 : 64 < L.length
  · (repeat ((first | refine n_must rfl ?_ | refine n_chk (drawF_ok (by decide +kernel)) ?_ | refine n_same rfl ?_ | ((first | refine n_must ?_ ?_ | refine n_brT ?_ ?_); (focus (first | (simp [h4]; done) | (simp [h4]; omega) | (simp only [h4]; simp; done)))) | (refine n_brF ?_ ?_; (focus (first | (simp [h4]; done) | (simp [h4]; omega) | (simp only [h4]; simp; done)))) | refine n_must (by (with_reducible refine and_shape ?_) <;> kernel_rfl) ?_); (refine gs ?_)))
    have e : s.take r L = (s, 0, 2) := by rw [Vs.take, if_neg hno, if_pos h4]
    rw [e]
    exact n_ret0 rfl rfl fun ids' w' hp hI' => ⟨rfl, post_res hI' rfl 0 rfl rfl rfl⟩
  (repeat ((first | refine n_must rfl ?_ | refine n_chk (drawF_ok (by decide +kernel)) ?_ | refine n_same rfl ?_ | ((first | refine n_must ?_ ?_ | refine n_brT ?_ ?_); (focus (first | (simp [h4]; done) | (simp [h4]; omega) | (simp only [h4]; simp; done)))) | (refine n_brF ?_ ?_; (focus (first | (simp [h4]; done) | (simp [h4]; omega) | (simp only [h4]; simp; done)))) | refine n_must (by (with_reducible refine and_shape ?_) <;> kernel_rfl) ?_); (refine gs ?_)))
  refine n_loop (σ := Nat) (fun i => [(0, .raw (pV p)), (1, .int .i64 r), (2, .raw (.slice o L.length cap)), (8, .int .i64 (freshN s r (L.take i) : Nat)), (39, .raw (.slice o L.length cap)), (40, .int .i64 (L.length : Nat)), (41, .int .i64 (i : Nat))]) (fun _ => [⟨84, [.res (viewsRes p mb nb s)], true⟩, ⟨49, [.res (readRes o (L.flatMap Vw.l))], false⟩]) (fun i => i ≤ L.length ∧ ∀ j, j < i → okAt L j = true) (fun i => L.length - i) 0 mixed ⟨by omega, by omega⟩ (fun _ _ => rfl) rfl (by (repeat (first | exact trivial | refine ⟨⟨rfl, rfl⟩, ?_⟩))) (fun s _ => ⟨by (repeat (first | exact trivial | refine ⟨⟨_, rfl⟩, ?_⟩)), by (repeat (first | exact trivial | refine ⟨⟨_, rfl⟩, ?_⟩))⟩) fun i hJ => ?_
  obtain ⟨hi, hJ⟩ := hJ
  (refine gs ?_)
  by_cases hlt : i < L.length
  · have ei : IntKind.i64.wrap ((i : Int) + 1) = ((i + 1 : Nat) : Int) := by rw [w64 (by omega) (by omega)]; simp
    obtain ⟨a, rfl⟩ := read_some hL (by omega)
    have hx : L[i]? = some L[i] := List.getElem?_eq_getElem _
    have hd : L.getD i Vw.zero = L[i] := by simp [List.getD, hx]
    generalize L[i] = x at hx hd
    refine gw ?_
    refine n_ldI (.agg x.sv) rfl rfl (fun _ w1 _ hI1 => read_row (hI1.res 1 rfl rfl) hx (by simp)) ?_
    (refine gs ?_)
    refine gw ?_
    refine n_sameP (.bool (rightB x)) rfl rfl rfl (fun _ w1 hp1 hI1 => right_ok x w1) ?_; (refine gs ?_)
    refine gw ?_
    by_cases hr1 : rightB x = true
    · have hnm : x.nm.size ≤ maxLen := by have := right_len hr1; unfold maxLen; omega
      have hkok : keyE.ok (r, x.nm) := ⟨by constructor <;> omega, hnm⟩
      (repeat ((first | refine n_must rfl ?_ | refine n_chk (drawF_ok (by decide +kernel)) ?_ | refine n_same rfl ?_ | ((first | refine n_must ?_ ?_ | refine n_brT ?_ ?_); (focus (first | (simp [hr1]; done) | (simp [hr1]; omega) | (simp only [hr1]; simp; done)))) | (refine n_brF ?_ ?_; (focus (first | (simp [hr1]; done) | (simp [hr1]; omega) | (simp only [hr1]; simp; done)))) | refine n_must (by (with_reducible refine and_shape ?_) <;> kernel_rfl) ?_); (refine gs ?_)))
      by_cases hi0 : i = 0
      · have hok : okAt L i = true := by subst hi0; simp only [okAt, hd, hr1]; rfl
        (repeat ((first | refine n_must rfl ?_ | refine n_chk (drawF_ok (by decide +kernel)) ?_ | refine n_same rfl ?_ | ((first | refine n_must ?_ ?_ | refine n_brT ?_ ?_); (focus (first | (simp [hi0]; done) | (simp [hi0]; omega) | (simp only [hi0]; simp; done)))) | (refine n_brF ?_ ?_; (focus (first | (simp [hi0]; done) | (simp [hi0]; omega) | (simp only [hi0]; simp; done)))) | refine n_must (by (with_reducible refine and_shape ?_) <;> kernel_rfl) ?_); (refine gs ?_)))
        refine gw ?_
        refine n_ldDI (.raw (.map (some mb))) rfl rfl (fun _ w1 _ hI1 => load_cell aggVMap (blk_at (hI1.res 0 rfl rfl).1 (j := 2) rfl rfl)) ?_
        (refine gs ?_)
        refine gw ?_
        refine n_both ?_ ?_
        · (refine gs ?_)
          refine gg ?_
          refine n_lookup (E := keyE) (ev' := vwV) (b := mb) (kr := .agg [.int .i64 r, .str x.nm]) (zr := .agg Vw.zero.sv) (z := Vw.zero.val) s.V (r, x.nm) (.tup [.agg (s.last r x.nm).sv, .bool (mget s.V (r, x.nm)).isSome]) keyK rfl rfl rfl rfl rfl rfl hkok rfl rfl (by rw [lkV]; rfl) (fun _ w1 _ hI1 => by exact (hI1.res 0 rfl rfl).2.1) ?_
          (refine gs ?_)
          refine gg ?_
          have hJ' : i + 1 ≤ L.length ∧ ∀ j, j < i + 1 → okAt L j = true := ⟨by omega, fun j hj => by
            rcases Nat.lt_or_ge j i with h | h
            · exact hJ j h
            · obtain rfl : j = i := by omega
              exact hok⟩
          have hfr := fresh_next (s := s) (r := r) hx
          have hfl : freshN s r (L.take i) ≤ i := by
            unfold freshN
            have := List.countP_le_length (p := fun x : Vw => !(mget s.V (r, x.nm)).isSome) (l := L.take i)
            rw [List.length_take] at this
            omega
          cases hm : (mget s.V (r, x.nm)).isSome with
          | true =>
            rw [hm] at hfr
            refine gw ?_
            exact n_again ⟨i + 1, hJ', by omega, (by (repeat (first | exact trivial | refine ⟨⟨rfl, rfl⟩, ?_⟩ | refine ⟨⟨rfl, congrArg (SV.int .i64) ei⟩, ?_⟩ | refine ⟨⟨rfl, congrArg (fun n : Nat => SV.int .i64 (n : Int)) hfr.symm⟩, ?_⟩))), ⟨_, rfl⟩⟩
          | false =>
            rw [hm] at hfr
            have ef : IntKind.i64.wrap ((freshN s r (L.take i) : Int) + 1) = ((freshN s r (L.take (i + 1)) : Nat) : Int) := by rw [w64 (by omega) (by omega), hfr]; simp
            refine gw ?_
            exact n_again ⟨i + 1, hJ', by omega, (by (repeat (first | exact trivial | refine ⟨⟨rfl, rfl⟩, ?_⟩ | refine ⟨⟨rfl, congrArg (SV.int .i64) ei⟩, ?_⟩ | refine ⟨⟨rfl, congrArg (SV.int .i64) ef⟩, ?_⟩))), ⟨_, rfl⟩⟩
        · (refine gs ?_)
          refine gg ?_
          refine n_ldRI (.raw (.map (some mb))) rfl (fun _ w1 _ hI1 => load_cell aggVMap (blk_at (hI1.res 0 rfl rfl).1 (j := 2) rfl rfl)) ?_
          (refine gs ?_)
          refine gg ?_
          refine n_lookup (E := keyE) (ev' := vwV) (b := mb) (kr := .agg [.int .i64 r, .str x.nm]) (zr := .agg Vw.zero.sv) (z := Vw.zero.val) s.V (r, x.nm) (.tup [.agg (s.last r x.nm).sv, .bool (mget s.V (r, x.nm)).isSome]) keyK rfl rfl rfl rfl rfl rfl hkok rfl rfl (by rw [lkV]; rfl) (fun _ w1 _ hI1 => by exact (hI1.res 0 rfl rfl).2.1) ?_
          (refine gs ?_)
          refine gg ?_
          have hJ' : i + 1 ≤ L.length ∧ ∀ j, j < i + 1 → okAt L j = true := ⟨by omega, fun j hj => by
            rcases Nat.lt_or_ge j i with h | h
            · exact hJ j h
            · obtain rfl : j = i := by omega
              exact hok⟩
          have hfr := fresh_next (s := s) (r := r) hx
          have hfl : freshN s r (L.take i) ≤ i := by
            unfold freshN
            have := List.countP_le_length (p := fun x : Vw => !(mget s.V (r, x.nm)).isSome) (l := L.take i)
            rw [List.length_take] at this
            omega
          cases hm : (mget s.V (r, x.nm)).isSome with
          | true =>
            rw [hm] at hfr
            refine gw ?_
            exact n_again ⟨i + 1, hJ', by omega, (by (repeat (first | exact trivial | refine ⟨⟨rfl, rfl⟩, ?_⟩ | refine ⟨⟨rfl, congrArg (SV.int .i64) ei⟩, ?_⟩ | refine ⟨⟨rfl, congrArg (fun n : Nat => SV.int .i64 (n : Int)) hfr.symm⟩, ?_⟩))), ⟨_, rfl⟩⟩
          | false =>
            rw [hm] at hfr
            have ef : IntKind.i64.wrap ((freshN s r (L.take i) : Int) + 1) = ((freshN s r (L.take (i + 1)) : Nat) : Int) := by rw [w64 (by omega) (by omega), hfr]; simp
            refine gw ?_
            exact n_again ⟨i + 1, hJ', by omega, (by (repeat (first | exact trivial | refine ⟨⟨rfl, rfl⟩, ?_⟩ | refine ⟨⟨rfl, congrArg (SV.int .i64) ei⟩, ?_⟩ | refine ⟨⟨rfl, congrArg (SV.int .i64) ef⟩, ?_⟩))), ⟨_, rfl⟩⟩
      · have em : IntKind.i64.wrap ((i : Int) - 1) = ((i - 1 : Nat) : Int) := by rw [w64 (by omega) (by omega)]; omega
        have hi1 : 0 < i := by omega
        have hx1 : L[i - 1]? = some L[i - 1] := List.getElem?_eq_getElem _
        have hd1 : L.getD (i - 1) Vw.zero = L[i - 1] := by simp only [List.getD, hx1]; rfl
        generalize L[i - 1] = y at hx1 hd1
        (repeat ((first | refine n_must rfl ?_ | refine n_chk (drawF_ok (by decide +kernel)) ?_ | refine n_same rfl ?_ | ((first | refine n_must ?_ ?_ | refine n_brT ?_ ?_); (focus (first | (simp [hi1, em]; done) | (simp [hi1, em]; omega) | (simp only [hi1, em]; simp; done)))) | (refine n_brF ?_ ?_; (focus (first | (simp [hi1, em]; done) | (simp [hi1, em]; omega) | (simp only [hi1, em]; simp; done)))) | refine n_must (by (with_reducible refine and_shape ?_) <;> kernel_rfl) ?_); (refine gs ?_)))
        refine n_ldDI (.str y.nm) rfl rfl (fun _ w1 _ hI1 => load_cell aggStr (read_cell (hI1.res 1 rfl rfl) hx1 (j := 0) rfl (by simp [em, add_add]))) ?_
        (refine gs ?_)
        refine gw ?_
        cases hlts : ltS y.nm x.nm with
        | true =>
          have hok : okAt L i = true := by simp only [okAt, hd, hd1, hr1, hlts, Bool.or_true, Bool.and_self]
          have hlts' : Op.bytesLess y.nm.toList x.nm.toList = true := hlts
          (repeat ((first | refine n_must rfl ?_ | refine n_chk (drawF_ok (by decide +kernel)) ?_ | refine n_same rfl ?_ | ((first | refine n_must ?_ ?_ | refine n_brT ?_ ?_); (focus (first | (simp [hlts']; done) | (simp [hlts']; omega) | (simp only [hlts']; simp; done)))) | (refine n_brF ?_ ?_; (focus (first | (simp [hlts']; done) | (simp [hlts']; omega) | (simp only [hlts']; simp; done)))) | refine n_must (by (with_reducible refine and_shape ?_) <;> kernel_rfl) ?_); (refine gs ?_)))
          refine gw ?_
          refine n_ldDI (.raw (.map (some mb))) rfl rfl (fun _ w1 _ hI1 => load_cell aggVMap (blk_at (hI1.res 0 rfl rfl).1 (j := 2) rfl rfl)) ?_
          (refine gs ?_)
          refine gw ?_
          refine n_both ?_ ?_
          · (refine gs ?_)
            refine gg ?_
            refine n_lookup (E := keyE) (ev' := vwV) (b := mb) (kr := .agg [.int .i64 r, .str x.nm]) (zr := .agg Vw.zero.sv) (z := Vw.zero.val) s.V (r, x.nm) (.tup [.agg (s.last r x.nm).sv, .bool (mget s.V (r, x.nm)).isSome]) keyK rfl rfl rfl rfl rfl rfl hkok rfl rfl (by rw [lkV]; rfl) (fun _ w1 _ hI1 => by exact (hI1.res 0 rfl rfl).2.1) ?_
            (refine gs ?_)
            refine gg ?_
            have hJ' : i + 1 ≤ L.length ∧ ∀ j, j < i + 1 → okAt L j = true := ⟨by omega, fun j hj => by
              rcases Nat.lt_or_ge j i with h | h
              · exact hJ j h
              · obtain rfl : j = i := by omega
                exact hok⟩
            have hfr := fresh_next (s := s) (r := r) hx
            have hfl : freshN s r (L.take i) ≤ i := by
              unfold freshN
              have := List.countP_le_length (p := fun x : Vw => !(mget s.V (r, x.nm)).isSome) (l := L.take i)
              rw [List.length_take] at this
              omega
            cases hm : (mget s.V (r, x.nm)).isSome with
            | true =>
              rw [hm] at hfr
              refine gw ?_
              exact n_again ⟨i + 1, hJ', by omega, (by (repeat (first | exact trivial | refine ⟨⟨rfl, rfl⟩, ?_⟩ | refine ⟨⟨rfl, congrArg (SV.int .i64) ei⟩, ?_⟩ | refine ⟨⟨rfl, congrArg (fun n : Nat => SV.int .i64 (n : Int)) hfr.symm⟩, ?_⟩))), ⟨_, rfl⟩⟩
            | false =>
              rw [hm] at hfr
              have ef : IntKind.i64.wrap ((freshN s r (L.take i) : Int) + 1) = ((freshN s r (L.take (i + 1)) : Nat) : Int) := by rw [w64 (by omega) (by omega), hfr]; simp
              refine gw ?_
              exact n_again ⟨i + 1, hJ', by omega, (by (repeat (first | exact trivial | refine ⟨⟨rfl, rfl⟩, ?_⟩ | refine ⟨⟨rfl, congrArg (SV.int .i64) ei⟩, ?_⟩ | refine ⟨⟨rfl, congrArg (SV.int .i64) ef⟩, ?_⟩))), ⟨_, rfl⟩⟩
          · (refine gs ?_)
            refine gg ?_
            refine n_ldRI (.raw (.map (some mb))) rfl (fun _ w1 _ hI1 => load_cell aggVMap (blk_at (hI1.res 0 rfl rfl).1 (j := 2) rfl rfl)) ?_
            (refine gs ?_)
            refine gg ?_
            refine n_lookup (E := keyE) (ev' := vwV) (b := mb) (kr := .agg [.int .i64 r, .str x.nm]) (zr := .agg Vw.zero.sv) (z := Vw.zero.val) s.V (r, x.nm) (.tup [.agg (s.last r x.nm).sv, .bool (mget s.V (r, x.nm)).isSome]) keyK rfl rfl rfl rfl rfl rfl hkok rfl rfl (by rw [lkV]; rfl) (fun _ w1 _ hI1 => by exact (hI1.res 0 rfl rfl).2.1) ?_
            (refine gs ?_)
            refine gg ?_
            have hJ' : i + 1 ≤ L.length ∧ ∀ j, j < i + 1 → okAt L j = true := ⟨by omega, fun j hj => by
              rcases Nat.lt_or_ge j i with h | h
              · exact hJ j h
              · obtain rfl : j = i := by omega
                exact hok⟩
            have hfr := fresh_next (s := s) (r := r) hx
            have hfl : freshN s r (L.take i) ≤ i := by
              unfold freshN
              have := List.countP_le_length (p := fun x : Vw => !(mget s.V (r, x.nm)).isSome) (l := L.take i)
              rw [List.length_take] at this
              omega
            cases hm : (mget s.V (r, x.nm)).isSome with
            | true =>
              rw [hm] at hfr
              refine gw ?_
              exact n_again ⟨i + 1, hJ', by omega, (by (repeat (first | exact trivial | refine ⟨⟨rfl, rfl⟩, ?_⟩ | refine ⟨⟨rfl, congrArg (SV.int .i64) ei⟩, ?_⟩ | refine ⟨⟨rfl, congrArg (fun n : Nat => SV.int .i64 (n : Int)) hfr.symm⟩, ?_⟩))), ⟨_, rfl⟩⟩
            | false =>
              rw [hm] at hfr
              have ef : IntKind.i64.wrap ((freshN s r (L.take i) : Int) + 1) = ((freshN s r (L.take (i + 1)) : Nat) : Int) := by rw [w64 (by omega) (by omega), hfr]; simp
              refine gw ?_
              exact n_again ⟨i + 1, hJ', by omega, (by (repeat (first | exact trivial | refine ⟨⟨rfl, rfl⟩, ?_⟩ | refine ⟨⟨rfl, congrArg (SV.int .i64) ei⟩, ?_⟩ | refine ⟨⟨rfl, congrArg (SV.int .i64) ef⟩, ?_⟩))), ⟨_, rfl⟩⟩
        | false =>
          have hlts' : Op.bytesLess y.nm.toList x.nm.toList = false := hlts
          have hok : okAt L i = false := by simp only [okAt, hd, hd1, hr1, hlts, Bool.true_and, Bool.or_false]; simp [hi0]
          (repeat ((first | refine n_must rfl ?_ | refine n_chk (drawF_ok (by decide +kernel)) ?_ | refine n_same rfl ?_ | ((first | refine n_must ?_ ?_ | refine n_brT ?_ ?_); (focus (first | (simp [hlts']; done) | (simp [hlts']; omega) | (simp only [hlts']; simp; done)))) | (refine n_brF ?_ ?_; (focus (first | (simp [hlts']; done) | (simp [hlts']; omega) | (simp only [hlts']; simp; done)))) | refine n_must (by (with_reducible refine and_shape ?_) <;> kernel_rfl) ?_); (refine gs ?_)))
          refine n_leave ?_
          have e : s.take r L = (s, 0, 1) := by rw [Vs.take, if_neg hno, if_neg h4, if_pos (goodL_false hlt hok)]
          rw [e]
          exact n_ret0 rfl rfl fun ids' w' hp hI' => ⟨rfl, post_res hI' rfl 0 rfl rfl rfl⟩
    · have hr0 : rightB x = false := by simpa using hr1
      have hok : okAt L i = false := by simp only [okAt, hd, hr0, Bool.false_and]
      (repeat ((first | refine n_must rfl ?_ | refine n_chk (drawF_ok (by decide +kernel)) ?_ | refine n_same rfl ?_ | ((first | refine n_must ?_ ?_ | refine n_brT ?_ ?_); (focus (first | (simp [hr0]; done) | (simp [hr0]; omega) | (simp only [hr0]; simp; done)))) | (refine n_brF ?_ ?_; (focus (first | (simp [hr0]; done) | (simp [hr0]; omega) | (simp only [hr0]; simp; done)))) | refine n_must (by (with_reducible refine and_shape ?_) <;> kernel_rfl) ?_); (refine gs ?_)))
      refine n_leave ?_
      have e : s.take r L = (s, 0, 1) := by rw [Vs.take, if_neg hno, if_neg h4, if_pos (goodL_false hlt hok)]
      rw [e]
      exact n_ret0 rfl rfl fun ids' w' hp hI' => ⟨rfl, post_res hI' rfl 0 rfl rfl rfl⟩
  · obtain rfl : i = L.length := by omega
    have hg := goodL_true hJ
    refine gw ?_
    refine n_exit rfl ?_
    (refine gs ?_)
    refine gw ?_
    rw [List.take_length]
    have hfl : freshN s r L ≤ L.length := List.countP_le_length
    generalize hF : freshN s r L = F at hfl
    have hrn : r.toNat < s.ns.length := by omega
    have hget : (s.ns.map intV)[r.toNat]? = some (.int .i64 (cnt s.ns r)) := by simp [cnt, List.getD, hrn]
    have ec : IntKind.i64.wrap (cnt s.ns r + (F : Int)) = cnt s.ns r + F := w64 (by omega) (by omega)
    refine n_ldI (.raw (.slice (some ⟨nb, 0, none⟩) s.ns.length s.ns.length)) rfl rfl (fun _ w1 _ hI1 => load_cell aggInts (blk_at (hI1.res 0 rfl rfl).1 (j := 3) rfl rfl)) ?_
    (refine gs ?_)
    refine gw ?_
    refine n_ldI (.int .i64 (cnt s.ns r)) rfl rfl (fun _ w1 _ hI1 => load_cell aggInt (blk_at (hI1.res 0 rfl rfl).2.2.1 (j := r.toNat) hget (by simp))) ?_
    (refine gs ?_)
    by_cases h5 : 64 < cnt s.ns r + F
    · (repeat ((first | refine n_must rfl ?_ | refine n_chk (drawF_ok (by decide +kernel)) ?_ | refine n_same rfl ?_ | ((first | refine n_must ?_ ?_ | refine n_brT ?_ ?_); (focus (first | (simp [ec, h5]; done) | (simp [ec, h5]; omega) | (simp only [ec, h5]; simp; done)))) | (refine n_brF ?_ ?_; (focus (first | (simp [ec, h5]; done) | (simp [ec, h5]; omega) | (simp only [ec, h5]; simp; done)))) | refine n_must (by (with_reducible refine and_shape ?_) <;> kernel_rfl) ?_); (refine gs ?_)))
      have e : s.take r L = (s, 0, 102) := by rw [Vs.take, if_neg hno, if_neg h4, if_neg (by simp [hg]), if_pos (by rw [hF]; exact h5)]
      rw [e]
      exact n_ret0 rfl rfl fun ids' w' hp hI' => ⟨rfl, post_res hI' rfl 0 rfl rfl rfl⟩
    · (repeat ((first | refine n_must rfl ?_ | refine n_chk (drawF_ok (by decide +kernel)) ?_ | refine n_same rfl ?_ | ((first | refine n_must ?_ ?_ | refine n_brT ?_ ?_); (focus (first | (simp [ec, h5]; done) | (simp [ec, h5]; omega) | (simp only [ec, h5]; simp; done)))) | (refine n_brF ?_ ?_; (focus (first | (simp [ec, h5]; done) | (simp [ec, h5]; omega) | (simp only [ec, h5]; simp; done)))) | refine n_must (by (with_reducible refine and_shape ?_) <;> kernel_rfl) ?_); (refine gs ?_)))
      have hinv := takes_inv (s := s) (r := r) (q := cnt s.ns r) ⟨hc.1, Int.le_refl _⟩ hrr L
      refine n_loop (σ := Nat) (fun i => [(0, .raw (pV p)), (1, .int .i64 r), (2, .raw (.slice o L.length cap)), (13, .int .i64 ((s.takes r (L.take i)).2 : Nat)), (91, .raw (.slice o L.length cap)), (92, .int .i64 (L.length : Nat)), (93, .int .i64 (i : Nat))]) (fun i => [⟨84, [.res (viewsRes p mb nb (s.takes r (L.take i)).1)], true⟩, ⟨49, [.res (readRes o (L.flatMap Vw.l))], false⟩]) (fun i => i ≤ L.length) (fun i => L.length - i) 0 mixed (by omega) (fun _ _ => rfl) rfl (by (repeat (first | exact trivial | refine ⟨⟨rfl, rfl⟩, ?_⟩))) (fun s _ => ⟨by (repeat (first | exact trivial | refine ⟨⟨_, rfl⟩, ?_⟩)), by (repeat (first | exact trivial | refine ⟨⟨_, rfl⟩, ?_⟩))⟩) fun i hi2 => ?_
      (refine gs ?_)
      by_cases hlt : i < L.length
      · have ei : IntKind.i64.wrap ((i : Int) + 1) = ((i + 1 : Nat) : Int) := by rw [w64 (by omega) (by omega)]; simp
        obtain ⟨a, rfl⟩ := read_some hL (by omega)
        have hx : L[i]? = some L[i] := List.getElem?_eq_getElem _
        have hd : L.getD i Vw.zero = L[i] := by simp [List.getD, hx]
        have hok := hJ i hlt
        obtain ⟨v1, v2, v3, v4, v5⟩ := hinv i hi2
        have hnx := takes_next (s := s) (r := r) hx
        simp only [okAt, hd, Bool.and_eq_true] at hok
        generalize L[i] = x at hx hd hnx hok
        have hnm : x.nm.size ≤ maxLen := by have := right_len hok.1; unfold maxLen; omega
        have hkok : keyE.ok (r, x.nm) := ⟨by constructor <;> omega, hnm⟩
        generalize s.takes r (L.take i) = T at v1 v2 v3 v4 v5 hnx
        obtain ⟨s1, k1⟩ := T
        dsimp only at v1 v2 v3 v4 v5
        have c1 : 0 ≤ r ∧ r < s1.ns.length := by omega
        have c2 : s1.ns.length ≤ 1000 := by omega
        have c3 : 0 ≤ cnt s1.ns r ∧ cnt s1.ns r ≤ 1000000 := by omega
        refine gw ?_
        refine n_ldI (.agg x.sv) rfl rfl (fun _ w1 _ hI1 => read_row (hI1.res 1 rfl rfl) hx (by simp)) ?_
        (refine gs ?_)
        refine gw ?_
        refine n_ldDI (.raw (.map (some mb))) rfl rfl (fun _ w1 _ hI1 => load_cell aggVMap (blk_at (hI1.res 0 rfl rfl).1 (j := 2) rfl rfl)) ?_
        (refine gs ?_)
        refine gw ?_
        refine n_lookup (E := keyE) (ev' := vwV) (b := mb) (kr := .agg [.int .i64 r, .str x.nm]) (zr := .agg Vw.zero.sv) (z := Vw.zero.val) s1.V (r, x.nm) (.agg (s1.last r x.nm).sv) keyK rfl rfl rfl rfl rfl rfl hkok rfl rfl (by rw [lkV]; rfl) (fun _ w1 _ hI1 => by exact (hI1.res 0 rfl rfl).2.1) ?_
        (refine gs ?_)
        refine gw ?_
        by_cases hv : (s1.last r x.nm).ver < x.ver
        · have e1 : Vs.take1 r (s1, k1) x = (s1.put r x, k1 + 1) := by rw [Vs.take1, if_pos hv]
          have ek : IntKind.i64.wrap ((k1 : Int) + 1) = ((k1 + 1 : Nat) : Int) := by rw [w64 (by omega) (by omega)]; simp
          rw [e1] at hnx
          (repeat ((first | refine n_must rfl ?_ | refine n_chk (drawF_ok (by decide +kernel)) ?_ | refine n_same rfl ?_ | ((first | refine n_must ?_ ?_ | refine n_brT ?_ ?_); (focus (first | (simp [hv]; done) | (simp [hv]; omega) | (simp only [hv]; simp; done)))) | (refine n_brF ?_ ?_; (focus (first | (simp [hv]; done) | (simp [hv]; omega) | (simp only [hv]; simp; done)))) | refine n_must (by (with_reducible refine and_shape ?_) <;> kernel_rfl) ?_); (refine gs ?_)))
          refine n_callR (Y := Unit) 0 (fun _ => viewsRes p mb nb (s1.put r x)) (fun _ => .tup []) (fun _ => .tuple #[]) (fun _ => True) rfl rfl (fun _ => rfl) rfl rfl rfl (fun _ w1 hp1 hI1 hR => (put_ok (s := s1) hR c1 c2 c3 x hnm).mono fun e w' ⟨he, hf⟩ => ⟨(), he, trivial, hf⟩) ?_
          intro _ _
          (refine gs ?_)
          refine gw ?_
          refine n_again ⟨i + 1, by omega, by omega, ?_, ?_⟩
          · rw [hnx]; exact (by (repeat (first | exact trivial | refine ⟨⟨rfl, rfl⟩, ?_⟩ | refine ⟨⟨rfl, congrArg (SV.int .i64) ei⟩, ?_⟩ | refine ⟨⟨rfl, congrArg (SV.int .i64) ek⟩, ?_⟩)))
          · rw [hnx]; exact ⟨_, rfl⟩
        · have e1 : Vs.take1 r (s1, k1) x = (s1, k1) := by rw [Vs.take1, if_neg hv]
          rw [e1] at hnx
          (repeat ((first | refine n_must rfl ?_ | refine n_chk (drawF_ok (by decide +kernel)) ?_ | refine n_same rfl ?_ | ((first | refine n_must ?_ ?_ | refine n_brT ?_ ?_); (focus (first | (simp [hv]; done) | (simp [hv]; omega) | (simp only [hv]; simp; done)))) | (refine n_brF ?_ ?_; (focus (first | (simp [hv]; done) | (simp [hv]; omega) | (simp only [hv]; simp; done)))) | refine n_must (by (with_reducible refine and_shape ?_) <;> kernel_rfl) ?_); (refine gs ?_)))
          refine n_again ⟨i + 1, by omega, by omega, ?_, ?_⟩
          · rw [hnx]; exact (by (repeat (first | exact trivial | refine ⟨⟨rfl, rfl⟩, ?_⟩ | refine ⟨⟨rfl, congrArg (SV.int .i64) ei⟩, ?_⟩)))
          · rw [hnx]; exact ⟨_, rfl⟩
      · obtain rfl : i = L.length := by omega
        rw [List.take_length]
        refine gw ?_
        refine n_exit rfl ?_
        (refine gs ?_)
        refine gw ?_
        have e : s.take r L = ((s.takes r L).1, ((s.takes r L).2 : Int), 0) := by rw [Vs.take, if_neg hno, if_neg h4, if_neg (by simp [hg]), if_neg (by rw [hF]; exact h5)]
        rw [e]
        exact n_ret0 rfl rfl fun ids' w' hp hI' => ⟨rfl, post_res hI' rfl 0 rfl rfl rfl⟩
end Go.Proofs.Ytcpecnpnnodfhaa
