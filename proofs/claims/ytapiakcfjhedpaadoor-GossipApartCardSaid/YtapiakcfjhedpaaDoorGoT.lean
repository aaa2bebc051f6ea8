/- Chapter 12: GossipApart. -/
import Derived.Test.YtapiakcfjhedpaaDoorGoQ
set_option maxRecDepth 100000
set_option linter.unusedSimpArgs false
set_option linter.unusedVariables false
set_option maxHeartbeats 4000000
namespace Go.Proofs.YtapiakcfjhedpaaDoor
open Go.RowKit

theorem lookN_zero {l : List Int} (h : ∀ i, l.getD i 0 = 0) (fr : Nat) : ∀ k, lookN l (-1, 0) fr k = (-1, 0)
  | 0 => rfl
  | k + 1 => by rw [lookN_next, lookN_zero h fr k, lookS, if_neg (by rw [h]; simp)]
theorem askF_zero {l : List Int} (h : ∀ i, l.getD i 0 = 0) (me : Int) : askF me l = -1 := by
  unfold askF
  split
  · rw [lookN_zero h, lookN_zero h]
  · rw [lookN_zero h]
theorem kind_zero {K : List (Int × Int)} (h : ∀ x ∈ K, x = (0, 0)) (b : Bool) (i : Nat) : (K.map (kindF b)).getD i 0 = 0 := by
  rw [List.getD_eq_getElem?_getD, List.getElem?_map]
  cases hx : K[i]? with
  | none => rfl
  | some x =>
    have := h x (List.mem_of_getElem? hx)
    subst this
    cases b <;> rfl
theorem toF_zero {K : List (Int × Int)} (h : ∀ x ∈ K, x = (0, 0)) (me wd wu : Int) : toF me wd wu K < 0 := by
  unfold toF
  rw [askF_zero (kind_zero h true), askF_zero (kind_zero h false)]
  split <;> split <;> omega
theorem known_nil (nm : ByteArray) (n : Nat) : ∀ x ∈ knownL [] nm n, x = (0, 0) := by
  intro x hx
  unfold knownL at hx
  obtain ⟨i, _, rfl⟩ := List.mem_map.1 hx
  rfl
theorem tick_apart {s : Gs} (hnd : (s.m.map (·.1)).Nodup) (nm : ByteArray) (d u : Int) {K : List (Int × Int)} (h : ∀ x ∈ K, x = (0, 0)) :
    (s.tick nm d u K).2.2.2 = false ∧ (∀ nm', nm ≠ nm' → (s.tick nm d u K).1.lack nm' = s.lack nm') ∧ (s.tick nm d u K).1.me = s.me := by
  unfold Gs.tick tickW
  split
  · refine ⟨rfl, fun nm' hne => ?_, rfl⟩
    unfold Gs.lack
    dsimp only
    rw [mget_del _ _ hnd, if_neg hne]
  · rw [if_pos (toF_zero h _ _ _)]
    exact ⟨rfl, fun _ _ => rfl, rfl⟩
def fairB (d u : Int) : Prop := 0 ≤ d ∧ 0 ≤ u ∧ d ≤ 1099511627776 ∧ u ≤ 1099511627776
theorem need_fair (s : Gs) {nm : ByteArray} {d u : Int} (h : fairB d u) (nm' : ByteArray) : (s.need nm d u).lack nm' = if nm = nm' then (max (s.lack nm).1 d, max (s.lack nm).2 u) else s.lack nm' := by
  obtain ⟨h1, h2, h3, h4⟩ := h
  unfold Gs.need
  rw [if_neg (by omega)]
  conv => lhs; unfold Gs.lack
  dsimp only
  rw [mget_put]
  by_cases e : nm = nm'
  · rw [if_pos e, if_pos e]; rfl
  · rw [if_neg e, if_neg e]; rfl
theorem need_not (s : Gs) {nm : ByteArray} {d u : Int} (h : ¬ fairB d u) : s.need nm d u = s := by
  unfold Gs.need
  rw [if_pos]
  unfold fairB at h
  omega
/-- What the loop carries. -/
structure Apart (n : Int) (s : Gs) : Prop where
  me : -10 ≤ s.me ∧ s.me ≤ 1000
  k : (s.lack nmA).2 = 0
  nd : (s.m.map (·.1)).Nodup
theorem Need_on {p mb : Nat} {s : Gs} {w : World} (hR : (gossRes p mb s).R w) (nm : ByteArray) (hnm : nm.size ≤ maxLen) (d u : Int) :
    Calls Tryd.prog 15 #[pV p, .string nm, rtV (d, u)] w fun e w' => ∃ y : Unit, e = .returned (.tuple #[]) ∧ (((s.need nm d u).m.map (·.1)).Nodup) ∧ Post (gossRes p mb s) (gossRes p mb (s.need nm d u)) w w' :=
  (Need_ok hR nm hnm d u).mono fun e w' ⟨he, hP⟩ => ⟨(), he, hP.2.1.2.1.nodup, hP⟩
theorem cap1000 : capB 1000 = true := by decide

theorem GossipApart_ok {b0 : Nat} {w : World} {a0 a1 a2 : Addr} (hs : Sents b0 w a0 a1 a2) (hB : b0 ≤ w.heap.size) (me rp : Int) (hme : i64 me) (hrp : i64 rp) {o : Option Addr} {n cap : Nat} {f : Nat → Op6} (hsc : Scr w o n f) :
    Calls Tryd.prog 6 #[.int .i64 me, .int .i64 rp, .slice o n cap] w fun e w' => e = .returned (.bool true) ∧ Frm [] w w' := by
  have hI := Inv.nil (P := Tryd.prog) (N := 177) (S := []) (os := [(27, .of [(0, []), (2, []), (1, [2]), (3, []), (4, [])])]) w
  have hlen := hsc.len
  refine calls_sm (cx 177 [(27, .of [(0, []), (2, []), (1, [2]), (3, []), (4, [])])] [] w) (vals := [.int .i64 me, .int .i64 rp, .raw (.slice o n cap)]) mixed Tryd.func6 rfl rfl rfl hI rfl (st rfl ?_); conv => arg 3; whnf
  (repeat (first | (refine n_must rfl ?_; (refine st rfl ?_; conv => arg 3; whnf)) | (refine n_chk (drawF_ok (by decide +kernel)) ?_; (refine st rfl ?_; conv => arg 3; whnf)) | (refine n_same rfl ?_; (refine st rfl ?_; conv => arg 3; whnf)) | (refine n_brT ?_ ?_; (focus (simp <;> fail)); (refine st rfl ?_; conv => arg 3; whnf)) | (refine n_brF ?_ ?_; (focus (simp <;> fail)); (refine st rfl ?_; conv => arg 3; whnf))))
  refine n_sameP (.lit true) rfl rfl rfl (fun _ w1 hp1 hI1 => alive_ok (hs.frm hI1.frm (by simp) hB) (Nat.le_trans hB hI1.frm.size)) ?_; (refine st rfl ?_; conv => arg 3; whnf)
  (repeat (first | (refine n_must rfl ?_; (refine st rfl ?_; conv => arg 3; whnf)) | (refine n_chk (drawF_ok (by decide +kernel)) ?_; (refine st rfl ?_; conv => arg 3; whnf)) | (refine n_same rfl ?_; (refine st rfl ?_; conv => arg 3; whnf)) | (refine n_brT ?_ ?_; (focus (simp <;> fail)); (refine st rfl ?_; conv => arg 3; whnf)) | (refine n_brF ?_ ?_; (focus (simp <;> fail)); (refine st rfl ?_; conv => arg 3; whnf))))
  have hq := within_le (x := rp) (lo := 2) (hi := 8) (by omega)
  refine n_sameP (.int .i64 (withinF rp 2 8)) rfl rfl rfl (fun _ w1 hp1 hI1 => within_ok rp 2 8 hrp (by omega) (by omega) (by omega) w1) ?_; (refine st rfl ?_; conv => arg 3; whnf)
  generalize withinF rp 2 8 = q at hq
  obtain ⟨r, rfl⟩ : ∃ r : Nat, q = (r : Int) := ⟨q.toNat, by omega⟩
  have er : IntKind.i64.wrap ((r : Int) - 1) = (r : Int) - 1 := w64 (by omega) (by omega)
  have hx := within_le (x := me) (lo := 0) (hi := (r : Int) - 1) (by omega)
  (repeat (first | (refine n_must rfl ?_; (refine st rfl ?_; conv => arg 3; whnf)) | (refine n_chk (drawF_ok (by decide +kernel)) ?_; (refine st rfl ?_; conv => arg 3; whnf)) | (refine n_same rfl ?_; (refine st rfl ?_; conv => arg 3; whnf)) | (refine n_brT ?_ ?_; (focus (simp <;> fail)); (refine st rfl ?_; conv => arg 3; whnf)) | (refine n_brF ?_ ?_; (focus (simp <;> fail)); (refine st rfl ?_; conv => arg 3; whnf))))
  have hmw : ∀ w1, Calls Tryd.prog 9 #[.int .i64 me, .int .i64 0, .int .i64 ((r : Int) - 1)] w1 fun e w' => e = .returned (.int .i64 (withinF me 0 ((r : Int) - 1))) ∧ Frm [] w1 w' := fun w1 => within_ok me 0 ((r : Int) - 1) hme (by omega) (by omega) (by omega) w1
  generalize withinF me 0 ((r : Int) - 1) = me' at hx hmw
  refine n_sameP (.int .i64 me') rfl rfl rfl (fun _ w1 hp1 hI1 => by rw [er]; exact hmw w1) ?_; (refine st rfl ?_; conv => arg 3; whnf)
  (repeat (first | (refine n_must rfl ?_; (refine st rfl ?_; conv => arg 3; whnf)) | (refine n_chk (drawF_ok (by decide +kernel)) ?_; (refine st rfl ?_; conv => arg 3; whnf)) | (refine n_same rfl ?_; (refine st rfl ?_; conv => arg 3; whnf)) | (refine n_brT ?_ ?_; (focus (simp <;> fail)); (refine st rfl ?_; conv => arg 3; whnf)) | (refine n_brF ?_ ?_; (focus (simp <;> fail)); (refine st rfl ?_; conv => arg 3; whnf))))
  have hn : newErr me' r = 0 := by
    unfold newErr
    rw [if_neg (by omega), if_neg (by omega)]
  refine n_callN (Y := Nat × Nat) (fun y => gossRes y.1 y.2 ⟨me', r, []⟩) 60 (fun y => .tup [.raw (pV y.1), .int .i64 0]) (fun y => .tuple #[pV y.1, .int .i64 0]) (fun _ => True) rfl rfl rfl (fun _ => rfl) (fun w1 _ => gNew_good hn w1) ?_
  rintro ⟨pg, mg⟩ _ hf0
  (refine st rfl ?_; conv => arg 3; whnf)
  (repeat (first | (refine n_must rfl ?_; (refine st rfl ?_; conv => arg 3; whnf)) | (refine n_chk (drawF_ok (by decide +kernel)) ?_; (refine st rfl ?_; conv => arg 3; whnf)) | (refine n_same rfl ?_; (refine st rfl ?_; conv => arg 3; whnf)) | (refine n_brT ?_ ?_; (focus (simp <;> fail)); (refine st rfl ?_; conv => arg 3; whnf)) | (refine n_brF ?_ ?_; (focus (simp <;> fail)); (refine st rfl ?_; conv => arg 3; whnf))))
  refine n_new (.tup [.ptr 1 0, .int .i64 0]) ⟨63, (Led.mk 0 0 0 1000 0).sv, true⟩ _ _ rfl rfl rfl (fun _ => rfl) (fun _ => rfl) (fun w1 _ => New_1 _ cap1000 w1) fun pl hpl _ => ?_
  (refine st rfl ?_; conv => arg 3; whnf)
  (repeat (first | (refine n_must rfl ?_; (refine st rfl ?_; conv => arg 3; whnf)) | (refine n_chk (drawF_ok (by decide +kernel)) ?_; (refine st rfl ?_; conv => arg 3; whnf)) | (refine n_same rfl ?_; (refine st rfl ?_; conv => arg 3; whnf)) | (refine n_brT ?_ ?_; (focus (simp <;> fail)); (refine st rfl ?_; conv => arg 3; whnf)) | (refine n_brF ?_ ?_; (focus (simp <;> fail)); (refine st rfl ?_; conv => arg 3; whnf))))
  refine n_sameP (.int .i64 me') rfl rfl rfl (fun _ w1 hp1 hI1 => by rw [er]; exact hmw w1) ?_; (refine st rfl ?_; conv => arg 3; whnf)
  (repeat (first | (refine n_must rfl ?_; (refine st rfl ?_; conv => arg 3; whnf)) | (refine n_chk (drawF_ok (by decide +kernel)) ?_; (refine st rfl ?_; conv => arg 3; whnf)) | (refine n_same rfl ?_; (refine st rfl ?_; conv => arg 3; whnf)) | (refine n_brT ?_ ?_; (focus (simp <;> fail)); (refine st rfl ?_; conv => arg 3; whnf)) | (refine n_brF ?_ ?_; (focus (simp <;> fail)); (refine st rfl ?_; conv => arg 3; whnf))))
  refine n_callN (Y := Nat × Nat × Nat) (fun y => viewsRes y.1 y.2.1 y.2.2 ⟨me', [], List.replicate (r : Int).toNat 0⟩) 67 (fun y => .tup [.raw (pV y.1), .int .i64 0]) (fun y => .tuple #[pV y.1, .int .i64 0]) (fun _ => True) rfl rfl rfl (fun _ => rfl) (fun w1 _ => vNew_good hn w1) ?_
  rintro ⟨pv, mv, nv⟩ _ hf3
  (refine st rfl ?_; conv => arg 3; whnf)
  (repeat (first | (refine n_must rfl ?_; (refine st rfl ?_; conv => arg 3; whnf)) | (refine n_chk (drawF_ok (by decide +kernel)) ?_; (refine st rfl ?_; conv => arg 3; whnf)) | (refine n_same rfl ?_; (refine st rfl ?_; conv => arg 3; whnf)) | (refine n_must ?_ ?_; (focus (first | (simp; done) | (simp; omega))); (refine st rfl ?_; conv => arg 3; whnf)) | (refine n_brT ?_ ?_; (focus (first | (simp; done) | (simp; omega))); (refine st rfl ?_; conv => arg 3; whnf)) | (refine n_brF ?_ ?_; (focus (first | (simp; done) | (simp; omega))); (refine st rfl ?_; conv => arg 3; whnf)) | (refine n_must (by (with_reducible refine and_shape ?_) <;> kernel_rfl) ?_; (refine st rfl ?_; conv => arg 3; whnf))))
  refine n_loop (σ := Nat × Gs) (fun s => [(2, .raw (.slice o n cap)), (9, .raw (pV pg)), (11, .ptr 1 0), (13, .raw (pV pv)), (15, .int .i64 (s.1 : Nat))]) (fun s => [⟨60, [.res (gossRes pg mg s.2)], true⟩, ⟨63, (Led.mk 0 0 0 1000 0).sv, true⟩, ⟨67, [.res (viewsRes pv mv nv ⟨me', [], List.replicate (r : Int).toNat 0⟩)], true⟩]) (fun s => s.1 ≤ n ∧ s.1 ≤ 200 ∧ Apart r s.2) (fun s => n - s.1) (0, ⟨me', r, []⟩) mixed ⟨by simp, by simp, ⟨by dsimp only; omega, rfl, by simp⟩⟩ (fun _ _ => rfl) rfl (by (repeat (first | exact trivial | refine ⟨⟨rfl, rfl⟩, ?_⟩))) (fun s _ => ⟨by (repeat (first | exact trivial | refine ⟨⟨_, rfl⟩, ?_⟩)), by (repeat (first | exact trivial | refine ⟨⟨_, rfl⟩, ?_⟩))⟩) fun s hJ => ?_
  obtain ⟨i, s⟩ := s
  obtain ⟨hi, hi2, hA⟩ := hJ
  dsimp only at hi hi2 hA ⊢
  (refine st rfl ?_; conv => arg 3; whnf)
  by_cases hlt : i < n ∧ i < 200
  · obtain ⟨h1, h2⟩ := hlt
    have ei : IntKind.i64.wrap ((i : Int) + 1) = ((i + 1 : Nat) : Int) := by rw [w64 (by omega) (by omega)]; simp
    obtain ⟨ad, rfl, hload⟩ := hsc.load h1
    have hfit := hsc.fit i h1
    (repeat (first | (refine n_must rfl ?_; (refine st rfl ?_; conv => arg 3; whnf)) | (refine n_chk (drawF_ok (by decide +kernel)) ?_; (refine st rfl ?_; conv => arg 3; whnf)) | (refine n_same rfl ?_; (refine st rfl ?_; conv => arg 3; whnf)) | (refine n_must ?_ ?_; (focus (first | (simp; done) | (simp; omega))); (refine st rfl ?_; conv => arg 3; whnf)) | (refine n_brT ?_ ?_; (focus (first | (simp; done) | (simp; omega))); (refine st rfl ?_; conv => arg 3; whnf)) | (refine n_brF ?_ ?_; (focus (first | (simp; done) | (simp; omega))); (refine st rfl ?_; conv => arg 3; whnf)) | (refine n_must (by (with_reducible refine and_shape ?_) <;> kernel_rfl) ?_; (refine st rfl ?_; conv => arg 3; whnf))))
    refine n_ld (.agg (opS (f i).k (f i).who (f i).a (f i).nm (f i).d (f i).u)) rfl rfl hload ?_
    (refine st rfl ?_; conv => arg 3; whnf)
    (repeat (first | (refine n_must rfl ?_; (refine st rfl ?_; conv => arg 3; whnf)) | (refine n_chk (drawF_ok (by decide +kernel)) ?_; (refine st rfl ?_; conv => arg 3; whnf)) | (refine n_same rfl ?_; (refine st rfl ?_; conv => arg 3; whnf)) | (refine n_must ?_ ?_; (focus (first | (simp; done) | (simp; omega))); (refine st rfl ?_; conv => arg 3; whnf)) | (refine n_brT ?_ ?_; (focus (first | (simp; done) | (simp; omega))); (refine st rfl ?_; conv => arg 3; whnf)) | (refine n_brF ?_ ?_; (focus (first | (simp; done) | (simp; omega))); (refine st rfl ?_; conv => arg 3; whnf)) | (refine n_must (by (with_reducible refine and_shape ?_) <;> kernel_rfl) ?_; (refine st rfl ?_; conv => arg 3; whnf))))
    by_cases hnm : (f i).nm = nmA
    · refine n_brT (by rw [bytes_eq]; simp [hnm]) ?_
      (refine st rfl ?_; conv => arg 3; whnf)
      (repeat (first | (refine n_must rfl ?_; (refine st rfl ?_; conv => arg 3; whnf)) | (refine n_chk (drawF_ok (by decide +kernel)) ?_; (refine st rfl ?_; conv => arg 3; whnf)) | (refine n_same rfl ?_; (refine st rfl ?_; conv => arg 3; whnf)) | (refine n_must ?_ ?_; (focus (first | (simp; done) | (simp; omega))); (refine st rfl ?_; conv => arg 3; whnf)) | (refine n_brT ?_ ?_; (focus (first | (simp; done) | (simp; omega))); (refine st rfl ?_; conv => arg 3; whnf)) | (refine n_brF ?_ ?_; (focus (first | (simp; done) | (simp; omega))); (refine st rfl ?_; conv => arg 3; whnf)) | (refine n_must (by (with_reducible refine and_shape ?_) <;> kernel_rfl) ?_; (refine st rfl ?_; conv => arg 3; whnf))))
      exact n_again ⟨(i + 1, s), ⟨by dsimp only; omega, by dsimp only; omega, hA⟩, by dsimp only; omega, (by (repeat (first | exact trivial | refine ⟨⟨rfl, rfl⟩, ?_⟩ | refine ⟨⟨rfl, congrArg (SV.int .i64) ei⟩, ?_⟩))), ⟨_, rfl⟩⟩
    · refine n_brF (by rw [bytes_eq]; simp [hnm]) ?_
      (refine st rfl ?_; conv => arg 3; whnf)
      (repeat (first | (refine n_must rfl ?_; (refine st rfl ?_; conv => arg 3; whnf)) | (refine n_chk (drawF_ok (by decide +kernel)) ?_; (refine st rfl ?_; conv => arg 3; whnf)) | (refine n_same rfl ?_; (refine st rfl ?_; conv => arg 3; whnf)) | (refine n_must ?_ ?_; (focus (first | (simp; done) | (simp; omega))); (refine st rfl ?_; conv => arg 3; whnf)) | (refine n_brT ?_ ?_; (focus (first | (simp; done) | (simp; omega))); (refine st rfl ?_; conv => arg 3; whnf)) | (refine n_brF ?_ ?_; (focus (first | (simp; done) | (simp; omega))); (refine st rfl ?_; conv => arg 3; whnf)) | (refine n_must (by (with_reducible refine and_shape ?_) <;> kernel_rfl) ?_; (refine st rfl ?_; conv => arg 3; whnf))))
      refine n_sameP (rtS (s.lack nmA)) rfl rfl rfl (fun _ w1 hp1 hI1 => Lacks_ok (hI1.res 0 rfl rfl) nmA (by decide)) ?_; (refine st rfl ?_; conv => arg 3; whnf)
      (repeat (first | (refine n_must rfl ?_; (refine st rfl ?_; conv => arg 3; whnf)) | (refine n_chk (drawF_ok (by decide +kernel)) ?_; (refine st rfl ?_; conv => arg 3; whnf)) | (refine n_same rfl ?_; (refine st rfl ?_; conv => arg 3; whnf)) | (refine n_must ?_ ?_; (focus (first | (simp; done) | (simp; omega))); (refine st rfl ?_; conv => arg 3; whnf)) | (refine n_brT ?_ ?_; (focus (first | (simp; done) | (simp; omega))); (refine st rfl ?_; conv => arg 3; whnf)) | (refine n_brF ?_ ?_; (focus (first | (simp; done) | (simp; omega))); (refine st rfl ?_; conv => arg 3; whnf)) | (refine n_must (by (with_reducible refine and_shape ?_) <;> kernel_rfl) ?_; (refine st rfl ?_; conv => arg 3; whnf))))
      refine n_sameP (rtS (s.lack (f i).nm)) rfl rfl rfl (fun _ w1 hp1 hI1 => Lacks_ok (hI1.res 0 rfl rfl) (f i).nm hfit.2) ?_; (refine st rfl ?_; conv => arg 3; whnf)
      (repeat (first | (refine n_must rfl ?_; (refine st rfl ?_; conv => arg 3; whnf)) | (refine n_chk (drawF_ok (by decide +kernel)) ?_; (refine st rfl ?_; conv => arg 3; whnf)) | (refine n_same rfl ?_; (refine st rfl ?_; conv => arg 3; whnf)) | (refine n_must ?_ ?_; (focus (first | (simp; done) | (simp; omega))); (refine st rfl ?_; conv => arg 3; whnf)) | (refine n_brT ?_ ?_; (focus (first | (simp; done) | (simp; omega))); (refine st rfl ?_; conv => arg 3; whnf)) | (refine n_brF ?_ ?_; (focus (first | (simp; done) | (simp; omega))); (refine st rfl ?_; conv => arg 3; whnf)) | (refine n_must (by (with_reducible refine and_shape ?_) <;> kernel_rfl) ?_; (refine st rfl ?_; conv => arg 3; whnf))))
      have hk2 : (s.lack nmA).2 = 0 := hA.k
      by_cases hkd : (f i).k = 2
      · obtain ⟨q1, q2, q3⟩ := tick_apart hA.nd (f i).nm 0 0 (known_nil (f i).nm r)
        have hT : ∀ w1 : World, (gossRes pg mg s).R w1 → Blk w1 pl (Led.mk 0 0 0 1000 0).cells 63 → (viewsRes pv mv nv ⟨me', [], List.replicate (r : Int).toNat 0⟩).R w1 → pl ∉ (gossRes pg mg s).fp → pl ∉ (viewsRes pv mv nv ⟨me', [], List.replicate (r : Int).toNat 0⟩).fp → (∀ x ∈ (gossRes pg mg s).fp, x ∉ (viewsRes pv mv nv ⟨me', [], List.replicate (r : Int).toNat 0⟩).fp) →
            Calls Tryd.prog 14 #[pV pg, .string (f i).nm, pV pl, pV pv] w1 fun e w' => e = .returned (tickV (s.tick (f i).nm 0 0 (knownL [] (f i).nm r)).2) ∧ Post (gossRes pg mg s) (gossRes pg mg (s.tick (f i).nm 0 0 (knownL [] (f i).nm r)).1) w1 w' := by
          intro w1 h1 h2 h3 h4 h5 h6
          have := Tick_ok h1 hA.me h2 h3 h4 h5 h6 (by simp; omega) (f i).nm hfit.2
          simpa using this
        generalize s.tick (f i).nm 0 0 (knownL [] (f i).nm r) = T at hT q1 q2 q3
        obtain ⟨G', to, ⟨td, tu⟩, tis⟩ := T
        dsimp only at hT q1 q2 q3
        subst q1
        (repeat (first | (refine n_must rfl ?_; (refine st rfl ?_; conv => arg 3; whnf)) | (refine n_chk (drawF_ok (by decide +kernel)) ?_; (refine st rfl ?_; conv => arg 3; whnf)) | (refine n_same rfl ?_; (refine st rfl ?_; conv => arg 3; whnf)) | (refine n_must ?_ ?_; (focus (first | (simp [hkd]; done) | (simp [hkd]; omega) | (simp only [hkd]; simp; done))); (refine st rfl ?_; conv => arg 3; whnf)) | (refine n_brT ?_ ?_; (focus (first | (simp [hkd]; done) | (simp [hkd]; omega) | (simp only [hkd]; simp; done))); (refine st rfl ?_; conv => arg 3; whnf)) | (refine n_brF ?_ ?_; (focus (first | (simp [hkd]; done) | (simp [hkd]; omega) | (simp only [hkd]; simp; done))); (refine st rfl ?_; conv => arg 3; whnf)) | (refine n_must (by (with_reducible refine and_shape ?_) <;> kernel_rfl) ?_; (refine st rfl ?_; conv => arg 3; whnf))))
        refine n_callR (Y := Unit) 0 (fun _ => gossRes pg mg G') (fun _ => .tup [.int .i64 to, .agg [.int .i64 td, .int .i64 tu], .bool false]) (fun _ => .tuple #[.int .i64 to, .agg #[.int .i64 td, .int .i64 tu], .bool false]) (fun _ => True) rfl rfl (fun _ => rfl) rfl rfl rfl (fun _ w1 hp1 hI1 hR => (hT w1 hR (hI1.blk_at hp1 1 rfl rfl rfl) (hI1.res 2 rfl rfl) (hI1.ne_res 1 0 (by decide) rfl (pre_at hp1 rfl) rfl rfl rfl) (hI1.ne_res 1 2 (by decide) rfl (pre_at hp1 rfl) rfl rfl rfl) (hI1.res_res 0 2 (by decide) rfl rfl rfl rfl)).mono fun e w' ⟨he, hf⟩ => ⟨(), he, trivial, hf⟩) ?_
        intro _ _
        (refine st rfl ?_; conv => arg 3; whnf)
        (repeat (first | (refine n_must rfl ?_; (refine st rfl ?_; conv => arg 3; whnf)) | (refine n_chk (drawF_ok (by decide +kernel)) ?_; (refine st rfl ?_; conv => arg 3; whnf)) | (refine n_same rfl ?_; (refine st rfl ?_; conv => arg 3; whnf)) | (refine n_must ?_ ?_; (focus (first | (simp; done) | (simp; omega))); (refine st rfl ?_; conv => arg 3; whnf)) | (refine n_brT ?_ ?_; (focus (first | (simp; done) | (simp; omega))); (refine st rfl ?_; conv => arg 3; whnf)) | (refine n_brF ?_ ?_; (focus (first | (simp; done) | (simp; omega))); (refine st rfl ?_; conv => arg 3; whnf)) | (refine n_must (by (with_reducible refine and_shape ?_) <;> kernel_rfl) ?_; (refine st rfl ?_; conv => arg 3; whnf))))
        have el : (G').lack nmA = s.lack nmA := q2 nmA hnm
        refine n_sameP (rtS (s.lack nmA)) rfl rfl rfl (fun _ w1 hp1 hI1 => el ▸ Lacks_ok (hI1.res 0 rfl rfl) nmA (by decide)) ?_; (refine st rfl ?_; conv => arg 3; whnf)
        (repeat (first | (refine n_must rfl ?_; (refine st rfl ?_; conv => arg 3; whnf)) | (refine n_chk (drawF_ok (by decide +kernel)) ?_; (refine st rfl ?_; conv => arg 3; whnf)) | (refine n_same rfl ?_; (refine st rfl ?_; conv => arg 3; whnf)) | (refine n_must ?_ ?_; (focus (first | (simp; done) | (simp; omega))); (refine st rfl ?_; conv => arg 3; whnf)) | (refine n_brT ?_ ?_; (focus (first | (simp; done) | (simp; omega))); (refine st rfl ?_; conv => arg 3; whnf)) | (refine n_brF ?_ ?_; (focus (first | (simp; done) | (simp; omega))); (refine st rfl ?_; conv => arg 3; whnf)) | (refine n_must (by (with_reducible refine and_shape ?_) <;> kernel_rfl) ?_; (refine st rfl ?_; conv => arg 3; whnf))))
        refine n_sameP (.bool true) rfl rfl rfl (fun _ w1 hp1 hI1 => (same_ok (s.lack nmA) (s.lack nmA) w1).mono fun e w' ⟨h1, h2⟩ => ⟨by simpa using h1, h2⟩) ?_; (refine st rfl ?_; conv => arg 3; whnf)
        (repeat (first | (refine n_must rfl ?_; (refine st rfl ?_; conv => arg 3; whnf)) | (refine n_chk (drawF_ok (by decide +kernel)) ?_; (refine st rfl ?_; conv => arg 3; whnf)) | (refine n_same rfl ?_; (refine st rfl ?_; conv => arg 3; whnf)) | (refine n_must ?_ ?_; (focus (first | (simp; done) | (simp; omega))); (refine st rfl ?_; conv => arg 3; whnf)) | (refine n_brT ?_ ?_; (focus (first | (simp; done) | (simp; omega))); (refine st rfl ?_; conv => arg 3; whnf)) | (refine n_brF ?_ ?_; (focus (first | (simp; done) | (simp; omega))); (refine st rfl ?_; conv => arg 3; whnf)) | (refine n_must (by (with_reducible refine and_shape ?_) <;> kernel_rfl) ?_; (refine st rfl ?_; conv => arg 3; whnf))))
        have hfr : fairB (i : Int) 0 := ⟨by omega, by omega, by omega, by omega⟩
        refine n_callR (Y := Unit) 0 (fun _ => gossRes pg mg ((G').need nmA (i : Nat) 0)) (fun _ => .tup []) (fun _ => .tuple #[]) (fun _ => ((((G').need nmA (i : Nat) 0).m.map (·.1)).Nodup)) rfl rfl (fun _ => rfl) rfl rfl rfl (fun _ w1 hp1 hI1 hR => Need_on hR nmA (by decide) (i : Nat) 0) ?_
        intro _ hnd2
        (refine st rfl ?_; conv => arg 3; whnf)
        (repeat (first | (refine n_must rfl ?_; (refine st rfl ?_; conv => arg 3; whnf)) | (refine n_chk (drawF_ok (by decide +kernel)) ?_; (refine st rfl ?_; conv => arg 3; whnf)) | (refine n_same rfl ?_; (refine st rfl ?_; conv => arg 3; whnf)) | (refine n_must ?_ ?_; (focus (first | (simp; done) | (simp; omega))); (refine st rfl ?_; conv => arg 3; whnf)) | (refine n_brT ?_ ?_; (focus (first | (simp; done) | (simp; omega))); (refine st rfl ?_; conv => arg 3; whnf)) | (refine n_brF ?_ ?_; (focus (first | (simp; done) | (simp; omega))); (refine st rfl ?_; conv => arg 3; whnf)) | (refine n_must (by (with_reducible refine and_shape ?_) <;> kernel_rfl) ?_; (refine st rfl ?_; conv => arg 3; whnf))))
        exact n_again ⟨(i + 1, (G').need nmA (i : Nat) 0), ⟨by dsimp only; omega, by dsimp only; omega, ⟨by dsimp only; rw [(need_same _ _ _ _).1, q3]; exact hA.me, by dsimp only; rw [need_fair _ hfr, if_pos rfl, el]; dsimp only; rw [hk2]; rfl, hnd2⟩⟩, by dsimp only; omega, (by (repeat (first | exact trivial | refine ⟨⟨rfl, rfl⟩, ?_⟩ | refine ⟨⟨rfl, congrArg (SV.int .i64) ei⟩, ?_⟩))), ⟨_, rfl⟩⟩
      · (repeat (first | (refine n_must rfl ?_; (refine st rfl ?_; conv => arg 3; whnf)) | (refine n_chk (drawF_ok (by decide +kernel)) ?_; (refine st rfl ?_; conv => arg 3; whnf)) | (refine n_same rfl ?_; (refine st rfl ?_; conv => arg 3; whnf)) | (refine n_must ?_ ?_; (focus (first | (simp [hkd]; done) | (simp [hkd]; omega) | (simp only [hkd]; simp; done))); (refine st rfl ?_; conv => arg 3; whnf)) | (refine n_brT ?_ ?_; (focus (first | (simp [hkd]; done) | (simp [hkd]; omega) | (simp only [hkd]; simp; done))); (refine st rfl ?_; conv => arg 3; whnf)) | (refine n_brF ?_ ?_; (focus (first | (simp [hkd]; done) | (simp [hkd]; omega) | (simp only [hkd]; simp; done))); (refine st rfl ?_; conv => arg 3; whnf)) | (refine n_must (by (with_reducible refine and_shape ?_) <;> kernel_rfl) ?_; (refine st rfl ?_; conv => arg 3; whnf))))
        refine n_callR (Y := Unit) 0 (fun _ => gossRes pg mg (s.need (f i).nm (f i).d (f i).u)) (fun _ => .tup []) (fun _ => .tuple #[]) (fun _ => (((s.need (f i).nm (f i).d (f i).u).m.map (·.1)).Nodup)) rfl rfl (fun _ => rfl) rfl rfl rfl (fun _ w1 hp1 hI1 hR => Need_on hR (f i).nm hfit.2 (f i).d (f i).u) ?_
        intro _ hnd1
        (refine st rfl ?_; conv => arg 3; whnf)
        (repeat (first | (refine n_must rfl ?_; (refine st rfl ?_; conv => arg 3; whnf)) | (refine n_chk (drawF_ok (by decide +kernel)) ?_; (refine st rfl ?_; conv => arg 3; whnf)) | (refine n_same rfl ?_; (refine st rfl ?_; conv => arg 3; whnf)) | (refine n_must ?_ ?_; (focus (first | (simp; done) | (simp; omega))); (refine st rfl ?_; conv => arg 3; whnf)) | (refine n_brT ?_ ?_; (focus (first | (simp; done) | (simp; omega))); (refine st rfl ?_; conv => arg 3; whnf)) | (refine n_brF ?_ ?_; (focus (first | (simp; done) | (simp; omega))); (refine st rfl ?_; conv => arg 3; whnf)) | (refine n_must (by (with_reducible refine and_shape ?_) <;> kernel_rfl) ?_; (refine st rfl ?_; conv => arg 3; whnf))))
        by_cases hf : fairB (f i).d (f i).u
        · have el1 : (s.need (f i).nm (f i).d (f i).u).lack (f i).nm = (max (s.lack (f i).nm).1 (f i).d, max (s.lack (f i).nm).2 (f i).u) := by rw [need_fair _ hf, if_pos rfl]
          have elk : (s.need (f i).nm (f i).d (f i).u).lack nmA = s.lack nmA := by rw [need_fair _ hf, if_neg hnm]
          refine n_sameP (rtS (max (s.lack (f i).nm).1 (f i).d, max (s.lack (f i).nm).2 (f i).u)) rfl rfl rfl (fun _ w1 hp1 hI1 => el1 ▸ Lacks_ok (hI1.res 0 rfl rfl) (f i).nm hfit.2) ?_; (refine st rfl ?_; conv => arg 3; whnf)
          obtain ⟨g1, g2, g3, g4⟩ := hf
          (repeat (first | (refine n_must rfl ?_; (refine st rfl ?_; conv => arg 3; whnf)) | (refine n_chk (drawF_ok (by decide +kernel)) ?_; (refine st rfl ?_; conv => arg 3; whnf)) | (refine n_same rfl ?_; (refine st rfl ?_; conv => arg 3; whnf)) | (refine n_must ?_ ?_; (focus (first | (simp; done) | (simp; omega))); (refine st rfl ?_; conv => arg 3; whnf)) | (refine n_brT ?_ ?_; (focus (first | (simp; done) | (simp; omega))); (refine st rfl ?_; conv => arg 3; whnf)) | (refine n_brF ?_ ?_; (focus (first | (simp; done) | (simp; omega))); (refine st rfl ?_; conv => arg 3; whnf)) | (refine n_must (by (with_reducible refine and_shape ?_) <;> kernel_rfl) ?_; (refine st rfl ?_; conv => arg 3; whnf))))
          refine n_sameP (.bool true) rfl rfl rfl (fun _ w1 hp1 hI1 => (same_ok (max (s.lack (f i).nm).1 (f i).d, max (s.lack (f i).nm).2 (f i).u) (max (s.lack (f i).nm).1 (f i).d, max (s.lack (f i).nm).2 (f i).u) w1).mono fun e w' ⟨h1, h2⟩ => ⟨by simpa using h1, h2⟩) ?_; (refine st rfl ?_; conv => arg 3; whnf)
          (repeat (first | (refine n_must rfl ?_; (refine st rfl ?_; conv => arg 3; whnf)) | (refine n_chk (drawF_ok (by decide +kernel)) ?_; (refine st rfl ?_; conv => arg 3; whnf)) | (refine n_same rfl ?_; (refine st rfl ?_; conv => arg 3; whnf)) | (refine n_must ?_ ?_; (focus (first | (simp; done) | (simp; omega))); (refine st rfl ?_; conv => arg 3; whnf)) | (refine n_brT ?_ ?_; (focus (first | (simp; done) | (simp; omega))); (refine st rfl ?_; conv => arg 3; whnf)) | (refine n_brF ?_ ?_; (focus (first | (simp; done) | (simp; omega))); (refine st rfl ?_; conv => arg 3; whnf)) | (refine n_must (by (with_reducible refine and_shape ?_) <;> kernel_rfl) ?_; (refine st rfl ?_; conv => arg 3; whnf))))
          have el : (s.need (f i).nm (f i).d (f i).u).lack nmA = s.lack nmA := elk
          refine n_sameP (rtS (s.lack nmA)) rfl rfl rfl (fun _ w1 hp1 hI1 => el ▸ Lacks_ok (hI1.res 0 rfl rfl) nmA (by decide)) ?_; (refine st rfl ?_; conv => arg 3; whnf)
          (repeat (first | (refine n_must rfl ?_; (refine st rfl ?_; conv => arg 3; whnf)) | (refine n_chk (drawF_ok (by decide +kernel)) ?_; (refine st rfl ?_; conv => arg 3; whnf)) | (refine n_same rfl ?_; (refine st rfl ?_; conv => arg 3; whnf)) | (refine n_must ?_ ?_; (focus (first | (simp; done) | (simp; omega))); (refine st rfl ?_; conv => arg 3; whnf)) | (refine n_brT ?_ ?_; (focus (first | (simp; done) | (simp; omega))); (refine st rfl ?_; conv => arg 3; whnf)) | (refine n_brF ?_ ?_; (focus (first | (simp; done) | (simp; omega))); (refine st rfl ?_; conv => arg 3; whnf)) | (refine n_must (by (with_reducible refine and_shape ?_) <;> kernel_rfl) ?_; (refine st rfl ?_; conv => arg 3; whnf))))
          refine n_sameP (.bool true) rfl rfl rfl (fun _ w1 hp1 hI1 => (same_ok (s.lack nmA) (s.lack nmA) w1).mono fun e w' ⟨h1, h2⟩ => ⟨by simpa using h1, h2⟩) ?_; (refine st rfl ?_; conv => arg 3; whnf)
          (repeat (first | (refine n_must rfl ?_; (refine st rfl ?_; conv => arg 3; whnf)) | (refine n_chk (drawF_ok (by decide +kernel)) ?_; (refine st rfl ?_; conv => arg 3; whnf)) | (refine n_same rfl ?_; (refine st rfl ?_; conv => arg 3; whnf)) | (refine n_must ?_ ?_; (focus (first | (simp; done) | (simp; omega))); (refine st rfl ?_; conv => arg 3; whnf)) | (refine n_brT ?_ ?_; (focus (first | (simp; done) | (simp; omega))); (refine st rfl ?_; conv => arg 3; whnf)) | (refine n_brF ?_ ?_; (focus (first | (simp; done) | (simp; omega))); (refine st rfl ?_; conv => arg 3; whnf)) | (refine n_must (by (with_reducible refine and_shape ?_) <;> kernel_rfl) ?_; (refine st rfl ?_; conv => arg 3; whnf))))
          have hfr : fairB (i : Int) 0 := ⟨by omega, by omega, by omega, by omega⟩
          refine n_callR (Y := Unit) 0 (fun _ => gossRes pg mg ((s.need (f i).nm (f i).d (f i).u).need nmA (i : Nat) 0)) (fun _ => .tup []) (fun _ => .tuple #[]) (fun _ => ((((s.need (f i).nm (f i).d (f i).u).need nmA (i : Nat) 0).m.map (·.1)).Nodup)) rfl rfl (fun _ => rfl) rfl rfl rfl (fun _ w1 hp1 hI1 hR => Need_on hR nmA (by decide) (i : Nat) 0) ?_
          intro _ hnd2
          (refine st rfl ?_; conv => arg 3; whnf)
          (repeat (first | (refine n_must rfl ?_; (refine st rfl ?_; conv => arg 3; whnf)) | (refine n_chk (drawF_ok (by decide +kernel)) ?_; (refine st rfl ?_; conv => arg 3; whnf)) | (refine n_same rfl ?_; (refine st rfl ?_; conv => arg 3; whnf)) | (refine n_must ?_ ?_; (focus (first | (simp; done) | (simp; omega))); (refine st rfl ?_; conv => arg 3; whnf)) | (refine n_brT ?_ ?_; (focus (first | (simp; done) | (simp; omega))); (refine st rfl ?_; conv => arg 3; whnf)) | (refine n_brF ?_ ?_; (focus (first | (simp; done) | (simp; omega))); (refine st rfl ?_; conv => arg 3; whnf)) | (refine n_must (by (with_reducible refine and_shape ?_) <;> kernel_rfl) ?_; (refine st rfl ?_; conv => arg 3; whnf))))
          exact n_again ⟨(i + 1, (s.need (f i).nm (f i).d (f i).u).need nmA (i : Nat) 0), ⟨by dsimp only; omega, by dsimp only; omega, ⟨by dsimp only; rw [(need_same _ _ _ _).1, (need_same _ _ _ _).1]; exact hA.me, by dsimp only; rw [need_fair _ hfr, if_pos rfl, el]; dsimp only; rw [hk2]; rfl, hnd2⟩⟩, by dsimp only; omega, (by (repeat (first | exact trivial | refine ⟨⟨rfl, rfl⟩, ?_⟩ | refine ⟨⟨rfl, congrArg (SV.int .i64) ei⟩, ?_⟩))), ⟨_, rfl⟩⟩
        · have e0 := need_not s (nm := (f i).nm) hf
          rw [e0] at hnd1
          rw [e0]
          refine n_sameP (rtS (s.lack (f i).nm)) rfl rfl rfl (fun _ w1 hp1 hI1 => Lacks_ok (hI1.res 0 rfl rfl) (f i).nm hfit.2) ?_; (refine st rfl ?_; conv => arg 3; whnf)
          unfold fairB at hf
          (repeat' (first | (refine n_must rfl ?_; (refine st rfl ?_; conv => arg 3; whnf)) | (refine n_chk (drawF_ok (by decide +kernel)) ?_; (refine st rfl ?_; conv => arg 3; whnf)) | (refine n_same rfl ?_; (refine st rfl ?_; conv => arg 3; whnf)) | (refine n_must ?_ ?_; (focus (first | (simp; done) | (simp; omega))); (refine st rfl ?_; conv => arg 3; whnf)) | (refine n_brT ?_ ?_; (focus (first | (simp; done) | (simp; omega))); (refine st rfl ?_; conv => arg 3; whnf)) | (refine n_brF ?_ ?_; (focus (first | (simp; done) | (simp; omega))); (refine st rfl ?_; conv => arg 3; whnf)) | (refine n_br (fun hbr => ?_) (fun hbr => ?_) <;> simp at hbr <;> (refine st rfl ?_; conv => arg 3; whnf))))
          all_goals
            refine n_sameP (.bool true) rfl rfl rfl (fun _ w1 hp1 hI1 => (same_ok (s.lack (f i).nm) (s.lack (f i).nm) w1).mono fun e w' ⟨h1, h2⟩ => ⟨by simpa using h1, h2⟩) ?_; (refine st rfl ?_; conv => arg 3; whnf)
            (repeat (first | (refine n_must rfl ?_; (refine st rfl ?_; conv => arg 3; whnf)) | (refine n_chk (drawF_ok (by decide +kernel)) ?_; (refine st rfl ?_; conv => arg 3; whnf)) | (refine n_same rfl ?_; (refine st rfl ?_; conv => arg 3; whnf)) | (refine n_must ?_ ?_; (focus (first | (simp; done) | (simp; omega))); (refine st rfl ?_; conv => arg 3; whnf)) | (refine n_brT ?_ ?_; (focus (first | (simp; done) | (simp; omega))); (refine st rfl ?_; conv => arg 3; whnf)) | (refine n_brF ?_ ?_; (focus (first | (simp; done) | (simp; omega))); (refine st rfl ?_; conv => arg 3; whnf)) | (refine n_must (by (with_reducible refine and_shape ?_) <;> kernel_rfl) ?_; (refine st rfl ?_; conv => arg 3; whnf))))
            have el : (s).lack nmA = s.lack nmA := rfl
            refine n_sameP (rtS (s.lack nmA)) rfl rfl rfl (fun _ w1 hp1 hI1 => el ▸ Lacks_ok (hI1.res 0 rfl rfl) nmA (by decide)) ?_; (refine st rfl ?_; conv => arg 3; whnf)
            (repeat (first | (refine n_must rfl ?_; (refine st rfl ?_; conv => arg 3; whnf)) | (refine n_chk (drawF_ok (by decide +kernel)) ?_; (refine st rfl ?_; conv => arg 3; whnf)) | (refine n_same rfl ?_; (refine st rfl ?_; conv => arg 3; whnf)) | (refine n_must ?_ ?_; (focus (first | (simp; done) | (simp; omega))); (refine st rfl ?_; conv => arg 3; whnf)) | (refine n_brT ?_ ?_; (focus (first | (simp; done) | (simp; omega))); (refine st rfl ?_; conv => arg 3; whnf)) | (refine n_brF ?_ ?_; (focus (first | (simp; done) | (simp; omega))); (refine st rfl ?_; conv => arg 3; whnf)) | (refine n_must (by (with_reducible refine and_shape ?_) <;> kernel_rfl) ?_; (refine st rfl ?_; conv => arg 3; whnf))))
            refine n_sameP (.bool true) rfl rfl rfl (fun _ w1 hp1 hI1 => (same_ok (s.lack nmA) (s.lack nmA) w1).mono fun e w' ⟨h1, h2⟩ => ⟨by simpa using h1, h2⟩) ?_; (refine st rfl ?_; conv => arg 3; whnf)
            (repeat (first | (refine n_must rfl ?_; (refine st rfl ?_; conv => arg 3; whnf)) | (refine n_chk (drawF_ok (by decide +kernel)) ?_; (refine st rfl ?_; conv => arg 3; whnf)) | (refine n_same rfl ?_; (refine st rfl ?_; conv => arg 3; whnf)) | (refine n_must ?_ ?_; (focus (first | (simp; done) | (simp; omega))); (refine st rfl ?_; conv => arg 3; whnf)) | (refine n_brT ?_ ?_; (focus (first | (simp; done) | (simp; omega))); (refine st rfl ?_; conv => arg 3; whnf)) | (refine n_brF ?_ ?_; (focus (first | (simp; done) | (simp; omega))); (refine st rfl ?_; conv => arg 3; whnf)) | (refine n_must (by (with_reducible refine and_shape ?_) <;> kernel_rfl) ?_; (refine st rfl ?_; conv => arg 3; whnf))))
            have hfr : fairB (i : Int) 0 := ⟨by omega, by omega, by omega, by omega⟩
            refine n_callR (Y := Unit) 0 (fun _ => gossRes pg mg ((s).need nmA (i : Nat) 0)) (fun _ => .tup []) (fun _ => .tuple #[]) (fun _ => ((((s).need nmA (i : Nat) 0).m.map (·.1)).Nodup)) rfl rfl (fun _ => rfl) rfl rfl rfl (fun _ w1 hp1 hI1 hR => Need_on hR nmA (by decide) (i : Nat) 0) ?_
            intro _ hnd2
            (refine st rfl ?_; conv => arg 3; whnf)
            (repeat (first | (refine n_must rfl ?_; (refine st rfl ?_; conv => arg 3; whnf)) | (refine n_chk (drawF_ok (by decide +kernel)) ?_; (refine st rfl ?_; conv => arg 3; whnf)) | (refine n_same rfl ?_; (refine st rfl ?_; conv => arg 3; whnf)) | (refine n_must ?_ ?_; (focus (first | (simp; done) | (simp; omega))); (refine st rfl ?_; conv => arg 3; whnf)) | (refine n_brT ?_ ?_; (focus (first | (simp; done) | (simp; omega))); (refine st rfl ?_; conv => arg 3; whnf)) | (refine n_brF ?_ ?_; (focus (first | (simp; done) | (simp; omega))); (refine st rfl ?_; conv => arg 3; whnf)) | (refine n_must (by (with_reducible refine and_shape ?_) <;> kernel_rfl) ?_; (refine st rfl ?_; conv => arg 3; whnf))))
            exact n_again ⟨(i + 1, (s).need nmA (i : Nat) 0), ⟨by dsimp only; omega, by dsimp only; omega, ⟨by dsimp only; rw [(need_same _ _ _ _).1, (rfl : s.me = s.me)]; exact hA.me, by dsimp only; rw [need_fair _ hfr, if_pos rfl, el]; dsimp only; rw [hk2]; rfl, hnd2⟩⟩, by dsimp only; omega, (by (repeat (first | exact trivial | refine ⟨⟨rfl, rfl⟩, ?_⟩ | refine ⟨⟨rfl, congrArg (SV.int .i64) ei⟩, ?_⟩))), ⟨_, rfl⟩⟩
  · (repeat' (first | (refine n_must rfl ?_; (refine st rfl ?_; conv => arg 3; whnf)) | (refine n_chk (drawF_ok (by decide +kernel)) ?_; (refine st rfl ?_; conv => arg 3; whnf)) | (refine n_same rfl ?_; (refine st rfl ?_; conv => arg 3; whnf)) | (refine n_must ?_ ?_; (focus (first | (simp; done) | (simp; omega))); (refine st rfl ?_; conv => arg 3; whnf)) | (refine n_brT ?_ ?_; (focus (first | (simp; done) | (simp; omega))); (refine st rfl ?_; conv => arg 3; whnf)) | (refine n_brF ?_ ?_; (focus (first | (simp; done) | (simp; omega))); (refine st rfl ?_; conv => arg 3; whnf)) | (refine n_br (fun hbr => ?_) (fun hbr => ?_) <;> simp at hbr <;> (refine st rfl ?_; conv => arg 3; whnf))))
    all_goals
      refine n_exit rfl ?_
      (refine st rfl ?_; conv => arg 3; whnf)
      (repeat (first | (refine n_must rfl ?_; (refine st rfl ?_; conv => arg 3; whnf)) | (refine n_chk (drawF_ok (by decide +kernel)) ?_; (refine st rfl ?_; conv => arg 3; whnf)) | (refine n_same rfl ?_; (refine st rfl ?_; conv => arg 3; whnf)) | (refine n_brT ?_ ?_; (focus (simp <;> fail)); (refine st rfl ?_; conv => arg 3; whnf)) | (refine n_brF ?_ ?_; (focus (simp <;> fail)); (refine st rfl ?_; conv => arg 3; whnf))))
      have hk2 : (s.lack nmA).2 = 0 := hA.k
      refine n_sameP (rtS (s.lack nmA)) rfl rfl rfl (fun _ w1 hp1 hI1 => Lacks_ok (hI1.res 0 rfl rfl) nmA (by decide)) ?_; (refine st rfl ?_; conv => arg 3; whnf)
      (repeat (first | (refine n_must rfl ?_; (refine st rfl ?_; conv => arg 3; whnf)) | (refine n_chk (drawF_ok (by decide +kernel)) ?_; (refine st rfl ?_; conv => arg 3; whnf)) | (refine n_same rfl ?_; (refine st rfl ?_; conv => arg 3; whnf)) | (refine n_brT ?_ ?_; (focus (simp <;> fail)); (refine st rfl ?_; conv => arg 3; whnf)) | (refine n_brF ?_ ?_; (focus (simp <;> fail)); (refine st rfl ?_; conv => arg 3; whnf))))
      exact n_ret0 rfl rfl fun ids' w' hp hI' => ⟨ret_bool (by simp [hk2]), hI'.frm⟩
end Go.Proofs.YtapiakcfjhedpaaDoor
