/- Chapter 9's law: views compared; a copy that is lent. Chapter 9's law: a pair as parts of memory; a copy that is lent. Chapter 9's law: takes. -/
import Derived.Test.YtcpecnpnnodfhaaVwS
import Derived.Test.YtcpecnpnnodfhaaAs
import Derived.Test.YtcpecnpnnodfhaaBnZ
import Derived.Test.YtcpecnpnnodfhaaVwF
namespace Go.Proofs.Ytcpecnpnnodfhaa
section
set_option maxRecDepth 100000
set_option linter.unusedSimpArgs false
set_option linter.unusedVariables false
set_option maxHeartbeats 8000000
open Go.RowKit

theorem sameR_ok (a b : Int × Int) (w : World) : Calls Try.prog 20 #[.agg #[.int .i64 a.1, .int .i64 a.2], .agg #[.int .i64 b.1, .int .i64 b.2]] w fun e w' => e = .returned (.bool (decide (a = b))) ∧ Frm [] w w' := by
  obtain ⟨a1, a2⟩ := a
  obtain ⟨b1, b2⟩ := b
  have hI := Inv.nil (P := Try.prog) (N := 17) (S := []) (os := []) w
  refine calls_sm (cx 17 [] [] w) (vals := [.agg [.int .i64 a1, .int .i64 a2], .agg [.int .i64 b1, .int .i64 b2]]) mixed Try.func20 rfl rfl rfl hI rfl (st rfl ?_); conv => arg 3; whnf
  by_cases h1 : a1 = b1
  · by_cases h2 : a2 = b2
    · (repeat ((first | refine n_must rfl ?_ | refine n_chk (drawF_ok (by decide +kernel)) ?_ | refine n_same rfl ?_ | ((first | refine n_must ?_ ?_ | refine n_brT ?_ ?_); (focus (first | (simp [h1, h2]; done) | (simp [h1, h2]; omega) | (simp only [h1, h2]; simp; done)))) | (refine n_brF ?_ ?_; (focus (first | (simp [h1, h2]; done) | (simp [h1, h2]; omega) | (simp only [h1, h2]; simp; done)))) | refine n_must (by (with_reducible refine and_shape ?_) <;> kernel_rfl) ?_); (refine gs ?_)))
      refine n_ret0 rfl rfl fun ids' w' hp hI' => ⟨ret_bool (by simp [h1, h2]), hI'.frm⟩
    · (repeat ((first | refine n_must rfl ?_ | refine n_chk (drawF_ok (by decide +kernel)) ?_ | refine n_same rfl ?_ | ((first | refine n_must ?_ ?_ | refine n_brT ?_ ?_); (focus (first | (simp [h1, h2]; done) | (simp [h1, h2]; omega) | (simp only [h1, h2]; simp; done)))) | (refine n_brF ?_ ?_; (focus (first | (simp [h1, h2]; done) | (simp [h1, h2]; omega) | (simp only [h1, h2]; simp; done)))) | refine n_must (by (with_reducible refine and_shape ?_) <;> kernel_rfl) ?_); (refine gs ?_)))
      refine n_ret0 rfl rfl fun ids' w' hp hI' => ⟨ret_bool (by simp [h1, h2]), hI'.frm⟩
  · (repeat ((first | refine n_must rfl ?_ | refine n_chk (drawF_ok (by decide +kernel)) ?_ | refine n_same rfl ?_ | ((first | refine n_must ?_ ?_ | refine n_brT ?_ ?_); (focus (first | (simp [h1]; done) | (simp [h1]; omega) | (simp only [h1]; simp; done)))) | (refine n_brF ?_ ?_; (focus (first | (simp [h1]; done) | (simp [h1]; omega) | (simp only [h1]; simp; done)))) | refine n_must (by (with_reducible refine and_shape ?_) <;> kernel_rfl) ?_); (refine gs ?_)))
    refine n_ret0 rfl rfl fun ids' w' hp hI' => ⟨ret_bool (by simp [h1]), hI'.frm⟩
theorem same_ok (a b : Vw) (w : World) : Calls Try.prog 27 #[a.val, b.val] w fun e w' => e = .returned (.bool (decide (a = b))) ∧ Frm [] w w' := by
  obtain ⟨a1, a2, a3, a4, a5, a6, a7⟩ := a
  obtain ⟨b1, b2, b3, b4, b5, b6, b7⟩ := b
  have hI := Inv.nil (P := Try.prog) (N := 45) (S := []) (os := []) w
  refine calls_sm (cx 45 [] [] w) (vals := [.agg (Vw.sv ⟨a1, a2, a3, a4, a5, a6, a7⟩), .agg (Vw.sv ⟨b1, b2, b3, b4, b5, b6, b7⟩)]) mixed Try.func27 rfl rfl rfl hI rfl (st rfl ?_); conv => arg 3; whnf
  refine gw ?_
  by_cases e1 : a1 = b1
  · refine n_brT (by rw [bytes_eq]; exact decide_eq_true e1) ?_
    (refine gs ?_)
    refine gw ?_
    by_cases e2 : a2 = b2
    case neg =>
      (repeat ((first | refine n_must rfl ?_ | refine n_chk (drawF_ok (by decide +kernel)) ?_ | refine n_same rfl ?_ | ((first | refine n_must ?_ ?_ | refine n_brT ?_ ?_); (focus (first | (simp [e2]; done) | (simp [e2]; omega) | (simp only [e2]; simp; done)))) | (refine n_brF ?_ ?_; (focus (first | (simp [e2]; done) | (simp [e2]; omega) | (simp only [e2]; simp; done)))) | refine n_must (by (with_reducible refine and_shape ?_) <;> kernel_rfl) ?_); (refine gs ?_)))
      refine n_ret0 rfl rfl fun ids' w' hp hI' => ⟨ret_bool (by simp [e2]), hI'.frm⟩
    (repeat ((first | refine n_must rfl ?_ | refine n_chk (drawF_ok (by decide +kernel)) ?_ | refine n_same rfl ?_ | ((first | refine n_must ?_ ?_ | refine n_brT ?_ ?_); (focus (first | (simp [e2]; done) | (simp [e2]; omega) | (simp only [e2]; simp; done)))) | (refine n_brF ?_ ?_; (focus (first | (simp [e2]; done) | (simp [e2]; omega) | (simp only [e2]; simp; done)))) | refine n_must (by (with_reducible refine and_shape ?_) <;> kernel_rfl) ?_); (refine gs ?_)))
    by_cases e3 : a3 = b3
    case neg =>
      (repeat ((first | refine n_must rfl ?_ | refine n_chk (drawF_ok (by decide +kernel)) ?_ | refine n_same rfl ?_ | ((first | refine n_must ?_ ?_ | refine n_brT ?_ ?_); (focus (first | (simp [e3]; done) | (simp [e3]; omega) | (simp only [e3]; simp; done)))) | (refine n_brF ?_ ?_; (focus (first | (simp [e3]; done) | (simp [e3]; omega) | (simp only [e3]; simp; done)))) | refine n_must (by (with_reducible refine and_shape ?_) <;> kernel_rfl) ?_); (refine gs ?_)))
      refine n_ret0 rfl rfl fun ids' w' hp hI' => ⟨ret_bool (by simp [e3]), hI'.frm⟩
    (repeat ((first | refine n_must rfl ?_ | refine n_chk (drawF_ok (by decide +kernel)) ?_ | refine n_same rfl ?_ | ((first | refine n_must ?_ ?_ | refine n_brT ?_ ?_); (focus (first | (simp [e2, e3]; done) | (simp [e2, e3]; omega) | (simp only [e2, e3]; simp; done)))) | (refine n_brF ?_ ?_; (focus (first | (simp [e2, e3]; done) | (simp [e2, e3]; omega) | (simp only [e2, e3]; simp; done)))) | refine n_must (by (with_reducible refine and_shape ?_) <;> kernel_rfl) ?_); (refine gs ?_)))
    by_cases e4 : a4 = b4
    case neg =>
      (repeat ((first | refine n_must rfl ?_ | refine n_chk (drawF_ok (by decide +kernel)) ?_ | refine n_same rfl ?_ | ((first | refine n_must ?_ ?_ | refine n_brT ?_ ?_); (focus (first | (simp [e4]; done) | (simp [e4]; omega) | (simp only [e4]; simp; done)))) | (refine n_brF ?_ ?_; (focus (first | (simp [e4]; done) | (simp [e4]; omega) | (simp only [e4]; simp; done)))) | refine n_must (by (with_reducible refine and_shape ?_) <;> kernel_rfl) ?_); (refine gs ?_)))
      refine n_ret0 rfl rfl fun ids' w' hp hI' => ⟨ret_bool (by simp [e4]), hI'.frm⟩
    (repeat ((first | refine n_must rfl ?_ | refine n_chk (drawF_ok (by decide +kernel)) ?_ | refine n_same rfl ?_ | ((first | refine n_must ?_ ?_ | refine n_brT ?_ ?_); (focus (first | (simp [e2, e3, e4]; done) | (simp [e2, e3, e4]; omega) | (simp only [e2, e3, e4]; simp; done)))) | (refine n_brF ?_ ?_; (focus (first | (simp [e2, e3, e4]; done) | (simp [e2, e3, e4]; omega) | (simp only [e2, e3, e4]; simp; done)))) | refine n_must (by (with_reducible refine and_shape ?_) <;> kernel_rfl) ?_); (refine gs ?_)))
    obtain ⟨D5, hD5⟩ : ∃ D, decide ((a5, a6) = (b5, b6)) = D := ⟨_, rfl⟩
    refine n_sameP (.bool D5) rfl rfl rfl (fun _ w1 hp1 hI1 => hD5 ▸ sameR_ok (a5, a6) (b5, b6) w1) ?_; (refine gs ?_)
    cases D5 with
    | false =>
      have e5 := of_decide_eq_false hD5
      refine gw ?_
      refine n_ret0 rfl rfl fun ids' w' hp hI' => ⟨ret_bool (by rw [eq_comm, decide_eq_false_iff_not]; intro h; injection h with _ _ _ _ h5 h6 _; exact e5 (by rw [h5, h6])), hI'.frm⟩
    | true =>
    have e5 := of_decide_eq_true hD5
    refine gw ?_
    by_cases e7 : a7 = b7
    case neg =>
      (repeat ((first | refine n_must rfl ?_ | refine n_chk (drawF_ok (by decide +kernel)) ?_ | refine n_same rfl ?_ | ((first | refine n_must ?_ ?_ | refine n_brT ?_ ?_); (focus (first | (simp [e7]; done) | (simp [e7]; omega) | (simp only [e7]; simp; done)))) | (refine n_brF ?_ ?_; (focus (first | (simp [e7]; done) | (simp [e7]; omega) | (simp only [e7]; simp; done)))) | refine n_must (by (with_reducible refine and_shape ?_) <;> kernel_rfl) ?_); (refine gs ?_)))
      refine n_ret0 rfl rfl fun ids' w' hp hI' => ⟨ret_bool (by simp [e7]), hI'.frm⟩
    (repeat ((first | refine n_must rfl ?_ | refine n_chk (drawF_ok (by decide +kernel)) ?_ | refine n_same rfl ?_ | ((first | refine n_must ?_ ?_ | refine n_brT ?_ ?_); (focus (first | (simp [e7]; done) | (simp [e7]; omega) | (simp only [e7]; simp; done)))) | (refine n_brF ?_ ?_; (focus (first | (simp [e7]; done) | (simp [e7]; omega) | (simp only [e7]; simp; done)))) | refine n_must (by (with_reducible refine and_shape ?_) <;> kernel_rfl) ?_); (refine gs ?_)))
    injection e5 with h5 h6
    refine n_ret0 rfl rfl fun ids' w' hp hI' => ⟨ret_bool (by simp [e1, e2, e3, e4, h5, h6, e7]), hI'.frm⟩
  · refine n_brF (by rw [bytes_eq]; exact decide_eq_false e1) ?_
    (refine gs ?_)
    refine gw ?_
    refine n_ret0 rfl rfl fun ids' w' hp hI' => ⟨ret_bool (by simp [e1]), hI'.frm⟩
/-- Two lists that read the same. -/
theorem all_ok {o o2 : Option Addr} {l : List Vw} {w : World} (cap cap2 : Nat) (hR : (readRes o (vws l)).R w) (hlt : ∀ x ∈ (readRes o (vws l)).fp, x < w.heap.size) (hR2 : (readRes o2 (vws l)).R w) (hlt2 : ∀ x ∈ (readRes o2 (vws l)).fp, x < w.heap.size) (hl : l.length ≤ 9223372036854775806) :
    Calls Try.prog 41 #[.slice o l.length cap, .slice o2 l.length cap2] w fun e w' => e = .returned (.bool true) ∧ Frm [] w w' := by
  have hI := Inv.nil (P := Try.prog) (N := 27) (S := []) (os := []) w
  have h1 : ∀ w1, Frm [] w w1 → (readRes o (vws l)).R w1 := fun w1 hf => (readRes o (vws l)).stable _ _ (fun k hk => hf.block k (hlt k hk) (by simp)) hR
  have h2 : ∀ w1, Frm [] w w1 → (readRes o2 (vws l)).R w1 := fun w1 hf => (readRes o2 (vws l)).stable _ _ (fun k hk => hf.block k (hlt2 k hk) (by simp)) hR2
  refine calls_sm (cx 27 [] [] w) (vals := [.raw (.slice o l.length cap), .raw (.slice o2 l.length cap2)]) mixed Try.func41 rfl rfl rfl hI rfl (st rfl ?_); conv => arg 3; whnf
  refine gw ?_
  refine n_loop (σ := Nat) (fun i => [(0, .raw (.slice o l.length cap)), (1, .raw (.slice o2 l.length cap2)), (5, .int .i64 (i : Nat))]) (fun _ => []) (fun i => i ≤ l.length) (fun i => l.length - i) 0 mixed (by omega) (fun _ _ => rfl) rfl (by (repeat (first | exact trivial | refine ⟨⟨rfl, rfl⟩, ?_⟩))) (fun s _ => ⟨by (repeat (first | exact trivial | refine ⟨⟨_, rfl⟩, ?_⟩)), by (repeat (first | exact trivial | refine ⟨⟨_, rfl⟩, ?_⟩))⟩) fun i hi => ?_
  (refine gs ?_)
  by_cases hlt3 : i < l.length
  · have ei : IntKind.i64.wrap ((i : Int) + 1) = ((i + 1 : Nat) : Int) := by rw [w64 (by omega) (by omega)]; simp
    have hx : l[i]? = some l[i] := List.getElem?_eq_getElem _
    obtain ⟨ad, rfl⟩ : ∃ a, o = some a := read_some hR (by omega)
    obtain ⟨ad2, rfl⟩ : ∃ a, o2 = some a := read_some hR2 (by omega)
    generalize l[i] = p at hx
    refine gw ?_
    (refine n_ldA (.agg p.sv) rfl (by first | exact trivial | rfl) rfl (fun _ w1 _ hI1 => read_row (h1 _ hI1.frm) hx rfl) ?_; (refine gs ?_))
    refine gw ?_
    (refine n_ldA (.agg p.sv) rfl (by first | exact trivial | rfl) rfl (fun _ w1 _ hI1 => read_row (h2 _ hI1.frm) hx rfl) ?_; (refine gs ?_))
    refine gw ?_
    refine n_sameP (.bool (decide (p = p))) rfl rfl rfl (fun _ w1 hp1 hI1 => same_ok p p w1) ?_; (refine gs ?_)
    have hpp : decide (p = p) = true := decide_eq_true rfl
    (repeat ((first | refine n_must rfl ?_ | refine n_chk (drawF_ok (by decide +kernel)) ?_ | refine n_same rfl ?_ | ((first | refine n_must ?_ ?_ | refine n_brT ?_ ?_); (focus (first | (simp [hpp]; done) | (simp [hpp]; omega) | (simp only [hpp]; simp; done)))) | (refine n_brF ?_ ?_; (focus (first | (simp [hpp]; done) | (simp [hpp]; omega) | (simp only [hpp]; simp; done)))) | refine n_must (by (with_reducible refine and_shape ?_) <;> kernel_rfl) ?_); (refine gs ?_)))
    exact n_again ⟨i + 1, by omega, by omega, (by (repeat (first | exact trivial | refine ⟨⟨rfl, rfl⟩, ?_⟩ | refine ⟨⟨rfl, congrArg (SV.int .i64) ei⟩, ?_⟩))), ⟨_, rfl⟩⟩
  · obtain rfl : i = l.length := by omega
    refine gw ?_
    refine n_exit rfl ?_
    (refine gs ?_)
    refine gw ?_
    exact n_ret0 rfl rfl fun ids' w' hp hI' => ⟨rfl, hI'.frm⟩
end
section
set_option maxRecDepth 100000
set_option linter.unusedSimpArgs false
set_option linter.unusedVariables false
set_option maxHeartbeats 8000000
open Go.RowKit

abbrev oneV : Vw := ⟨{ data := #[111, 110, 101] }, 0, 0, -7, 0, 0, 0⟩
abbrev twoV : Vw := ⟨{ data := #[116, 119, 111] }, 0, 0, -8, 0, 0, 0⟩
abbrev badV : Vw := ⟨{ data := #[107] }, 5, 0, 1125899906842624, 6, 0, 0⟩
abbrev lent (L : List Vw) : List Vw := L ++ [oneV, twoV]
theorem lend_ok {o : Option Addr} {L : List Vw} {cap : Nat} {w : World} (hR : (readRes o (vws L)).R w) (hl : (L.length + 2) * 64 ≤ 140737488355328) :
    Calls Try.prog 52 #[.slice o L.length cap] w fun e w' => ∃ y : Nat × Nat, e = .returned (.slice (some ⟨y.1, 0, none⟩) (L.length + 2) y.2) ∧ True ∧ FreshR w w' (vRow (some ⟨y.1, 0, none⟩) (L.length + 2) y.2 (vws (lent L))) := by
  obtain ⟨itt, hitt, hpt⟩ := Option.map_eq_some_iff.1 infoVw
  simp only [Prod.mk.injEq] at hpt
  have hI := Inv.nil (P := Try.prog) (N := 23) (S := []) (os := []) w
  have hS1 : ∀ w1, Frm [] w w1 → (readRes o (vws L)).R w1 := fun w1 hf => (readRes o (vws L)).stable _ _ (fun k hk => hf.block k (rd_lt hR k hk) (by simp)) hR
  refine calls_sm (cx 23 [] [] w) (vals := [.raw (.slice o L.length cap)]) mixed Try.func52 rfl rfl rfl hI rfl (st rfl ?_); conv => arg 3; whnf
  refine gw ?_
  refine n_loopX [0] ([⟨49, [.res (vRow (((0, (none, 0)) : Nat × (Option Addr × Nat))).2.1 (((0, (none, 0)) : Nat × (Option Addr × Nat))).1 (((0, (none, 0)) : Nat × (Option Addr × Nat))).2.2 (vws (L.take (((0, (none, 0)) : Nat × (Option Addr × Nat))).1)))], true⟩]) rfl (fun w1 hI1 => ?_) ?_
  · exact hI1.addR (Frm.refl [] w1) (vRow none 0 0 []) 49 true (rowRes_nil _ _ _) (by simp [rowRes]) (by simp [rowRes])
  refine n_loop (σ := Nat × (Option Addr × Nat)) (fun t => [(0, .raw (.slice o L.length cap)), (3, .raw (.slice t.2.1 t.1 t.2.2)), (4, .int .i64 (t.1 : Nat))]) (fun t => [⟨49, [.res (vRow (t).2.1 (t).1 (t).2.2 (vws (L.take (t).1)))], true⟩]) (fun t => t.1 ≤ L.length) (fun t => L.length - t.1) (0, (none, 0)) mixed (by dsimp only; omega) (fun _ _ => rfl) rfl (by (repeat (first | exact trivial | refine ⟨⟨rfl, rfl⟩, ?_⟩))) (fun s _ => ⟨by (repeat (first | exact trivial | refine ⟨⟨_, rfl⟩, ?_⟩)), by (repeat (first | exact trivial | refine ⟨⟨_, rfl⟩, ?_⟩))⟩) fun t ht => ?_
  obtain ⟨i, ⟨oo, cc⟩⟩ := t
  dsimp only at ht ⊢
  (refine gs ?_)
  by_cases hil : i < L.length
  · have ei : IntKind.i64.wrap ((i : Int) + 1) = ((i + 1 : Nat) : Int) := by rw [w64 (by omega) (by omega)]; simp
    have hx : L[i]? = some L[i] := List.getElem?_eq_getElem _
    have ht1 : L.take (i + 1) = L.take i ++ [L[i]] := by rw [List.take_add_one, hx]; rfl
    obtain ⟨ad, rfl⟩ : ∃ a, o = some a := read_some hR (by omega)
    generalize L[i] = p at hx ht1
    (repeat ((first | refine n_must rfl ?_ | refine n_chk (drawF_ok (by decide +kernel)) ?_ | refine n_same rfl ?_ | ((first | refine n_must ?_ ?_ | refine n_brT ?_ ?_); (focus (first | (simp [hil]; done) | (simp [hil]; omega) | (simp only [hil]; simp; done)))) | (refine n_brF ?_ ?_; (focus (first | (simp [hil]; done) | (simp [hil]; omega) | (simp only [hil]; simp; done)))) | refine n_must (by (with_reducible refine and_shape ?_) <;> kernel_rfl) ?_); (refine gs ?_)))
    (refine n_ldA (.agg p.sv) rfl (by first | exact trivial | rfl) rfl (fun _ w1 _ hI1 => read_row (hS1 _ hI1.frm) hx rfl) ?_; (refine gs ?_))
    refine gw ?_
    refine n_build1 rfl rfl elemVw rfl rfl rfl rfl rfl rfl rfl rfl rfl ?_
    (refine gs ?_)
    refine gw ?_
    refine n_append (nv := p.l) 0 rfl rfl elemVw hitt hpt.1 hpt.2.1 hpt.2.2 rfl (by omega) rfl rfl rfl rfl rfl rfl (by omega) (by simp [Value.oneCell']) (by omega) (by omega) (show vws (L.take i) ++ p.l = vws (L.take (i + 1)) by rw [ht1]; exact vws_add _ _) fun g c => ?_
    (refine gs ?_)
    refine gw ?_
    exact n_again ⟨(i + 1, (some ⟨g, 0, none⟩, c)), by dsimp only; omega, by dsimp only; omega, (by (repeat (first | exact trivial | refine ⟨⟨rfl, rfl⟩, ?_⟩ | refine ⟨⟨rfl, congrArg (SV.int .i64) ei⟩, ?_⟩))), ⟨_, rfl⟩⟩
  · obtain rfl : i = L.length := by omega
    rw [List.take_length]
    (repeat ((first | refine n_must rfl ?_ | refine n_chk (drawF_ok (by decide +kernel)) ?_ | refine n_same rfl ?_ | ((first | refine n_must ?_ ?_ | refine n_brT ?_ ?_); (focus (first | (simp [hil]; done) | (simp [hil]; omega) | (simp only [hil]; simp; done)))) | (refine n_brF ?_ ?_; (focus (first | (simp [hil]; done) | (simp [hil]; omega) | (simp only [hil]; simp; done)))) | refine n_must (by (with_reducible refine and_shape ?_) <;> kernel_rfl) ?_); (refine gs ?_)))
    refine n_exit rfl ?_
    (refine gs ?_)
    refine gw ?_
    refine n_buildN rfl rfl (show sliceElem Try.prog 34 = _ from elemVw) rfl rfl rfl rfl rfl rfl rfl rfl ?_
    (refine gs ?_)
    refine gw ?_
    refine n_append (nv := oneV.l ++ twoV.l) 0 rfl rfl elemVw hitt hpt.1 hpt.2.1 hpt.2.2 rfl (by omega) rfl rfl rfl rfl rfl rfl (by omega) (by simp [Value.oneCell']) (by omega) (by omega) (show vws L ++ (oneV.l ++ twoV.l) = vws (lent L) by rw [lent, vws_app]; rfl) fun g c => ?_
    (refine gs ?_)
    refine gw ?_
    refine n_ret0 rfl rfl fun ids' w' hp hI' => ⟨(g, c), rfl, trivial, ?_⟩
    obtain ⟨f1, f2, f3, f4⟩ := post_res (ρ := Res.none) (ρ' := vRow (some ⟨g, 0, none⟩) (L.length + 2) c (vws (lent L))) hI' rfl 0 rfl rfl rfl
    exact ⟨f1, f2, fun x hx => (f3 x hx).resolve_left (by simp [Res.none]), f4⟩
theorem all_n {o o2 : Option Addr} {l : List Vw} {n : Nat} {w : World} (cap cap2 : Nat) (hn : l.length = n) (hR : (readRes o (vws l)).R w) (hR2 : (readRes o2 (vws l)).R w) (hl : n ≤ 9223372036854775806) :
    Calls Try.prog 41 #[.slice o n cap, .slice o2 n cap2] w fun e w' => e = .returned (.bool true) ∧ Frm [] w w' := by
  subst hn
  exact all_ok cap cap2 hR (rd_lt hR) hR2 (rd_lt hR2) hl

/-! ### A pair -/
structure Pq where
  v : Nat
  mb : Nat
  nb : Nat
  s : Vs
  q : Nat
  oc : Option Addr × Nat
  r : Rv
  dg : Option Addr × Nat × Nat
  kn : Option Addr × Nat × Nat
/-- The marks on what was answered last. -/
def dgL (n : Nat) : List Vw := (List.range n).map fun i : Nat => ⟨{ data := #[] }, 0, 0, -1 - (i : Int), 0, 0, 0⟩
def knL (n : Nat) : List (Int × Int) := (List.range n).map fun i : Nat => (-1 - (i : Int), -7)
abbrev dgRes (x : Option Addr × Nat × Nat) : Res := readRes x.1 (vws (dgL x.2.1))
abbrev knRes (x : Option Addr × Nat × Nat) : Res := readRes x.1 ((knL x.2.1).flatMap rtL)
abbrev Pq.sv (P : Pq) (bk : Nat) : List SV := [.raw (pV P.v), .raw (pV P.q), .raw (.slice P.dg.1 P.dg.2.1 P.dg.2.2), .raw (.slice P.kn.1 P.kn.2.1 P.kn.2.2), .raw (pV bk)]
abbrev pqMem (bk : Nat) (P : Pq) : Mem := [⟨72, P.sv bk, true⟩, ⟨84, [.res (viewsRes P.v P.mb P.nb P.s)], true⟩, ⟨113, [.res (rvRes P.q P.oc.1 P.oc.2 P.r)], true⟩, ⟨49, [.res (dgRes P.dg)], true⟩, ⟨47, [.res (knRes P.kn)], true⟩]
abbrev pqRes (b bk : Nat) (P : Pq) : Res := memRes [b, 0, 0, 0, 0] (pqMem bk P)
/-- How the two stand, and how much there may be behind N calls. -/
structure Pq.ok (P : Pq) (n N : Nat) : Prop where
  rel : VRel P.s P.r n
  n : 2 ≤ n ∧ n ≤ 16
  all : P.r.All.length ≤ 200 * N
  dg : P.dg.2.1 ≤ 100000
  kn : P.kn.2.1 ≤ 16
theorem takesR_all (All : List (Int × Vw)) (r : Int) (L : List Vw) : (takesR All r L).1.length ≤ All.length + L.length := by
  have := (takesR_len All r L L.length (Nat.le_refl _)).1
  rwa [List.take_length] at this
theorem rtake_len (r : Rv) (k : Int) (L : List Vw) : (r.take k L).1.All.length ≤ r.All.length + 64 := by
  have := takesR_all r.All k L
  unfold Rv.take
  split
  · dsimp only; omega
  split
  · dsimp only; omega
  split
  · dsimp only; omega
  split
  · dsimp only; omega
  · dsimp only; omega
theorem V_le {s : Vs} {r : Rv} {n : Nat} (h : VRel s r n) (hnd : (s.V.map (·.1)).Nodup) : s.V.length ≤ r.All.length := by
  have h1 := nodup_le (m := r.All.map fun e => (e.1, e.2.nm)) hnd fun x hx => by
    obtain ⟨⟨⟨k, nm⟩, y⟩, hy, rfl⟩ := List.mem_map.1 hx
    obtain ⟨j, hj, e⟩ := List.getElem_of_mem hy
    have h1 := (mget_at hnd (p := ((k, nm), y)) (j := j) (by rw [List.getElem?_eq_getElem hj, e])).1
    have h3 := h.is k nm
    dsimp only at h1
    rw [h1] at h3
    simp at h3
    rcases lastF_spec r.All k nm with ⟨h4, _⟩ | ⟨h4, h5⟩
    · rw [h4] at h3; exact absurd rfl h3
    · exact List.mem_map.2 ⟨_, h4, by simp [h5]⟩
  simpa using h1
theorem cnt_le {s : Vs} {r : Rv} {n : Nat} (h : VRel s r n) {k : Int} (h0 : 0 ≤ k) (h1 : k < n) : 0 ≤ Go.Proofs.Ytcpecnpnnodfhaa.cnt s.ns k ∧ Go.Proofs.Ytcpecnpnnodfhaa.cnt s.ns k ≤ r.All.length := by
  rw [h.cnt k h0 h1]
  have := namesF_len r.All k
  omega
theorem cnt_any {s : Vs} {r : Rv} {n : Nat} (h : VRel s r n) (hn : 2 ≤ n) (k : Int) : 0 ≤ Go.Proofs.Ytcpecnpnnodfhaa.cnt s.ns k ∧ Go.Proofs.Ytcpecnpnnodfhaa.cnt s.ns k ≤ r.All.length := by
  by_cases h0 : 0 ≤ k
  · by_cases h1 : k < n
    · exact cnt_le h h0 h1
    · have : Go.Proofs.Ytcpecnpnnodfhaa.cnt s.ns k = 0 := by
        unfold Go.Proofs.Ytcpecnpnnodfhaa.cnt
        rw [List.getD_eq_getElem?_getD, List.getElem?_eq_none (by have := h.len; omega)]; rfl
      rw [this]; omega
  · have : Go.Proofs.Ytcpecnpnnodfhaa.cnt s.ns k = Go.Proofs.Ytcpecnpnnodfhaa.cnt s.ns 0 := by
      unfold Go.Proofs.Ytcpecnpnnodfhaa.cnt
      rw [show k.toNat = (0 : Int).toNat by omega]
    rw [this]
    exact cnt_le h (by omega) (by omega)
end
section
set_option maxRecDepth 100000
set_option linter.unusedSimpArgs false
set_option linter.unusedVariables false
set_option maxHeartbeats 8000000
open Go.RowKit

abbrev bads (n : Nat) : List Vw := List.replicate n badV
theorem bads_len (n : Nat) : (vws (bads n)).length = n * 7 := by rw [vws_len]; simp
theorem bads_next (n : Nat) : vws (bads n) ++ badV.l = vws (bads (n + 1)) := by rw [vws_add]; simp [bads, List.replicate_succ']
theorem Take_n {p mb nb : Nat} {s : Vs} {w : World} (hR : (viewsRes p mb nb s).R w) (hl : s.ns.length ≤ 1000) (r : Int) (hr : i64 r) (hc : 0 ≤ cnt s.ns r ∧ cnt s.ns r ≤ 500000) {o : Option Addr} {L : List Vw} {m : Nat} (hm : L.length = m) (cap : Nat) (hL : (readRes o (vws L)).R w) (hap : ∀ x ∈ (viewsRes p mb nb s).fp, x ∉ (readRes o (vws L)).fp) :
    Calls Try.prog 21 #[pV p, .int .i64 r, .slice o m cap] w fun e w' => e = .returned (.tuple #[.int .i64 (s.take r L).2.1, .int .i64 (s.take r L).2.2]) ∧ Post (viewsRes p mb nb s) (viewsRes p mb nb (s.take r L).1) w w' := by
  subst hm
  exact Take_ok hR hl r hr hc cap hL (rd_lt hL) hap
theorem rTake_n {p : Nat} {o : Option Addr} {cap : Nat} {s : Rv} {w : World} (hR : (rvRes p o cap s).R w) (hl : s.All.length ≤ 100000) (r : Int) {o2 : Option Addr} {L : List Vw} {m : Nat} (hm : L.length = m) (cap2 : Nat) (hL : (readRes o2 (vws L)).R w) (hap : ∀ x ∈ (rvRes p o cap s).fp, x ∉ (readRes o2 (vws L)).fp) :
    Calls Try.prog 53 #[pV p, .int .i64 r, .slice o2 m cap2] w fun e w' => ∃ y : Option Addr × Nat, e = .returned (.tuple #[.int .i64 (s.take r L).2.1, .int .i64 (s.take r L).2.2]) ∧ True ∧ Post (rvRes p o cap s) (rvRes p y.1 y.2 (s.take r L).1) w w' := by
  subst hm
  exact rTake_ok hR hl r cap2 hL (rd_lt hL) hap
theorem takes_ok {b bk n N : Nat} {P : Pq} {from_ : Int} {o : Option Addr} {L : List Vw} {cap : Nat} {w : World} (hP : P.ok n N) (hN : N ≤ 400) (hfr : i64 from_) (hR : (pqRes b bk P).R w) (hL : (readRes o (vws L)).R w) (hap : ∀ x ∈ (pqRes b bk P).fp, x ∉ (readRes o (vws L)).fp) (hl : (L.length + 2) * 64 ≤ 140737488355328) :
    Calls Try.prog 36 #[pV b, .int .i64 from_, .slice o L.length cap] w fun e w' => ∃ P' : Pq, e = .returned (.bool true) ∧ (P'.ok n (N + 1) ∧ P'.dg = P.dg ∧ P'.kn = P.kn) ∧ Post (pqRes b bk P) (pqRes b bk P') w w' := by
  obtain ⟨itt, hitt, hpt⟩ := Option.map_eq_some_iff.1 infoVw
  simp only [Prod.mk.injEq] at hpt
  have hI0 : Inv (cx 105 [(2, .of [(0, []), (1, []), (2, []), (3, []), (4, []), (5, []), (6, []), (7, []), (8, [3]), (9, []), (10, []), (11, []), (12, []), (13, []), (14, [])]), (11, .of [(0, []), (1, []), (2, []), (3, []), (4, []), (5, []), (6, []), (7, []), (8, [3]), (9, []), (10, []), (11, []), (12, []), (13, []), (14, [])])] (pqRes b bk P).fp w) w [b, 0, 0, 0, 0] (pqMem bk P) := memRes_open hR fun x hx => hx
  have hI := hI0.consR (t := 49) (rw_ := false) (r := readRes o (vws L)) (fun x hx hm => hap x hm hx) hL (rd_lt hL) (by simp)
  obtain ⟨v, mb, nb, s, q, ⟨oc1, oc2⟩, r, dg, kn⟩ := P
  obtain ⟨hrel, hn, hall, hdg, hkn⟩ := hP
  dsimp only at hrel hall hdg hkn
  have hlen : s.ns.length = n := hrel.len
  obtain ⟨hk1, hrel1⟩ := take_like hrel from_ L
  have hr1 := rtake_len r from_ L
  obtain ⟨hk2, hrel2⟩ := take_like hrel1 from_ (bads L.length)
  have hr2 := rtake_len (r.take from_ L).1 from_ (bads L.length)
  have hlen1 : (s.take from_ L).1.ns.length = n := hrel1.len
  have hc := cnt_any hrel hn.1 from_
  have hc1 := cnt_any hrel1 hn.1 from_
  generalize hS1 : (s.take from_ L).1 = s1 at hrel1 hrel2 hk2 hlen1 hc1
  generalize hRR1 : (r.take from_ L).1 = r1 at hrel1 hrel2 hr1 hk2 hr2 hc1
  refine calls_sm (cx 105 [(2, .of [(0, []), (1, []), (2, []), (3, []), (4, []), (5, []), (6, []), (7, []), (8, [3]), (9, []), (10, []), (11, []), (12, []), (13, []), (14, [])]), (11, .of [(0, []), (1, []), (2, []), (3, []), (4, []), (5, []), (6, []), (7, []), (8, [3]), (9, []), (10, []), (11, []), (12, []), (13, []), (14, [])])] (pqRes b bk ⟨v, mb, nb, s, q, (oc1, oc2), r, dg, kn⟩).fp w) (vals := [.ptr 0 0, .int .i64 from_, .raw (.slice o L.length cap)]) mixed Try.func36 rfl rfl rfl hI rfl (st rfl ?_); conv => arg 3; whnf
  refine gw ?_
  refine n_callN (fun y : Nat × Nat => vRow (some ⟨y.1, 0, none⟩) (L.length + 2) y.2 (vws (lent L))) 49 (fun y => .raw (.slice (some ⟨y.1, 0, none⟩) (L.length + 2) y.2)) (fun y => .slice (some ⟨y.1, 0, none⟩) (L.length + 2) y.2) (fun _ => True) rfl rfl rfl (fun _ => rfl) (fun w1 hI1 => lend_ok (hI1.res 5 rfl rfl) hl) ?_
  rintro ⟨g, cc⟩ _ _
  dsimp only
  (refine gs ?_)
  refine gw ?_
  have hpre : ∀ {w1 : World}, (vRow (some ⟨g, 0, none⟩) (L.length + 2) cc (vws (lent L))).R w1 → (readRes (some ⟨g, 0, none⟩) (vws L)).R w1 := fun h => rd_pre (ys := vws [oneV, twoV]) (by rw [← vws_app]; exact rd_of_row h)
  refine n_opF (P := L.length + 2 ≤ cc) (fun _ w1 _ hI1 => row_cap (hI1.res 6 rfl rfl) (by omega)) fun hcc => ?_
  refine n_sliceHi (n := L.length) (s := 7) rfl rfl elemVw sizeView rfl rfl (by omega) ?_
  (refine gs ?_)
  refine gw ?_
  refine n_callR (Y := Unit) 1 (fun _ => viewsRes v mb nb s1) (fun _ => .tup [.int .i64 (r.take from_ L).2.1, .int .i64 (r.take from_ L).2.2]) (fun _ => .tuple #[.int .i64 (r.take from_ L).2.1, .int .i64 (r.take from_ L).2.2]) (fun _ => True) rfl rfl (fun _ => rfl) rfl rfl rfl (fun _ w1 _ hI1 hR1 =>
    (Take_ok hR1 (by omega) from_ hfr (by omega) cc (hpre (hI1.res 6 rfl rfl)) (rd_lt (hpre (hI1.res 6 rfl rfl))) (fun x hx hx2 => hI1.res_res 1 6 (by decide) rfl rfl rfl rfl x hx (rd_inR hx2))).mono fun e w' ⟨he, hp⟩ => ⟨(), by rw [he, hk1], trivial, by rw [← hS1]; exact hp⟩) ?_
  intro _ _
  (refine gs ?_)
  refine gw ?_
  refine n_callR (Y := Option Addr × Nat) 2 (fun y => rvRes q y.1 y.2 r1) (fun _ => .tup [.int .i64 (r.take from_ L).2.1, .int .i64 (r.take from_ L).2.2]) (fun _ => .tuple #[.int .i64 (r.take from_ L).2.1, .int .i64 (r.take from_ L).2.2]) (fun _ => True) rfl rfl (fun _ => rfl) rfl rfl rfl (fun _ w1 _ hI1 hR1 =>
    (rTake_ok hR1 (by omega) from_ cap (hI1.res 5 rfl rfl) (rd_lt (hI1.res 5 rfl rfl)) (fun x hx hx2 => hI1.res_res 2 5 (by decide) rfl rfl rfl rfl x hx hx2)).mono fun e w' ⟨y, he, _, hp⟩ => ⟨y, he, trivial, by rw [← hRR1]; exact hp⟩) ?_
  rintro ⟨oc3, oc4⟩ _
  dsimp only
  (refine gs ?_)
  refine gw ?_
  refine n_callN (fun y : Nat × Nat => vRow (some ⟨y.1, 0, none⟩) (L.length + 2) y.2 (vws (lent L))) 49 (fun y => .raw (.slice (some ⟨y.1, 0, none⟩) (L.length + 2) y.2)) (fun y => .slice (some ⟨y.1, 0, none⟩) (L.length + 2) y.2) (fun _ => True) rfl rfl rfl (fun _ => rfl) (fun w1 hI1 => lend_ok (hI1.res 5 rfl rfl) hl) ?_
  rintro ⟨g2, cc2⟩ _ _
  dsimp only
  (refine gs ?_)
  refine gw ?_
  refine n_sameP (.bool true) rfl rfl rfl (fun _ w1 hp1 hI1 => all_n cc cc2 (by simp) (rd_of_row (hI1.res 6 rfl rfl)) (rd_of_row (hI1.res 7 rfl rfl)) (by omega)) ?_; (refine gs ?_)
  refine gw ?_
  have hll : (vws (lent L)).length = (L.length + 2) * 7 := by rw [vws_len]; simp
  refine n_loop (σ := Nat) (fun i => [(0, .ptr 0 0), (1, .int .i64 from_), (2, .raw (.slice o L.length cap)), (7, .raw (.slice (some ⟨g, 0, none⟩) (L.length + 2) cc)), (12, .bool true), (13, .int .i64 (i : Nat))]) (fun i => [⟨72, Pq.sv ⟨v, mb, nb, s, q, (oc1, oc2), r, dg, kn⟩ bk, true⟩, ⟨84, [.res (viewsRes v mb nb s1)], true⟩, ⟨113, [.res (rvRes q oc3 oc4 r1)], true⟩, ⟨49, [.res (dgRes dg)], true⟩, ⟨47, [.res (knRes kn)], true⟩, ⟨49, [.res (readRes o (vws L))], false⟩, ⟨49, [.res (vRow (some ⟨g, 0, none⟩) (L.length + 2) cc (vws (bads i) ++ (vws (lent L)).drop (i * 7)))], true⟩, ⟨49, [.res (vRow (some ⟨g2, 0, none⟩) (L.length + 2) cc2 (vws (lent L)))], true⟩]) (fun i => i ≤ L.length + 2) (fun i => L.length + 2 - i) 0 mixed (by omega) (fun _ _ => rfl) rfl (by (repeat (first | exact trivial | refine ⟨⟨rfl, rfl⟩, ?_⟩))) (fun s _ => ⟨by (repeat (first | exact trivial | refine ⟨⟨_, rfl⟩, ?_⟩)), by (repeat (first | exact trivial | refine ⟨⟨_, rfl⟩, ?_⟩))⟩) fun i hi => ?_
  (refine gs ?_)
  by_cases hil : i < L.length + 2
  · have ei : IntKind.i64.wrap ((i : Int) + 1) = ((i + 1 : Nat) : Int) := by rw [w64 (by omega) (by omega)]; simp
    have hil' : (i : Int) < ((L.length + 2 : Nat) : Int) := by omega
    (repeat ((first | refine n_must rfl ?_ | refine n_chk (drawF_ok (by decide +kernel)) ?_ | refine n_same rfl ?_ | ((first | refine n_must ?_ ?_ | refine n_brT ?_ ?_); (focus (first | (simp [hil']; done) | (simp [hil']; omega) | (simp only [hil']; simp; done)))) | (refine n_brF ?_ ?_; (focus (first | (simp [hil']; done) | (simp [hil']; omega) | (simp only [hil']; simp; done)))) | refine n_must (by (with_reducible refine and_shape ?_) <;> kernel_rfl) ?_); (refine gs ?_)))
    refine n_storeRow (g := g) (off := i * 7) (k := 7) (rv := .agg badV.sv) (v := badV.val) 6 (vws (bads (i + 1)) ++ (vws (lent L)).drop ((i + 1) * 7)) rfl rfl rfl ((show _ = (⟨g, 0, none⟩ : Addr).add (i * 7) from rfl).trans (by rw [add_mk])) rfl rfl sizeView rfl rfl rfl (by rw [List.length_append, bads_len, List.length_drop, hll]; omega) ?_ ?_
    · rw [List.take_append_of_le_length (by rw [bads_len]; omega), List.take_of_length_le (by rw [bads_len]; omega), List.drop_append, List.drop_of_length_le (by rw [bads_len]; omega), List.nil_append, List.drop_drop, bads_len, show i * 7 + (i * 7 + 7 - i * 7) = (i + 1) * 7 by omega]
      rw [← bads_next]
      rfl
    (refine gs ?_)
    refine gw ?_
    exact n_again ⟨i + 1, by omega, by omega, (by (repeat (first | exact trivial | refine ⟨⟨rfl, rfl⟩, ?_⟩ | refine ⟨⟨rfl, congrArg (SV.int .i64) ei⟩, ?_⟩))), ⟨_, rfl⟩⟩
  · obtain rfl : i = L.length + 2 := by omega
    rw [List.drop_of_length_le (by omega), List.append_nil]
    have hpre2 : ∀ {w1 : World}, (vRow (some ⟨g, 0, none⟩) (L.length + 2) cc (vws (bads (L.length + 2)))).R w1 → (readRes (some ⟨g, 0, none⟩) (vws (bads L.length))).R w1 := fun h => rd_pre (ys := vws (bads 2)) (by rw [← vws_app, bads, bads, List.replicate_append_replicate]; exact rd_of_row h)
    (repeat ((first | refine n_must rfl ?_ | refine n_chk (drawF_ok (by decide +kernel)) ?_ | refine n_same rfl ?_ | ((first | refine n_must ?_ ?_ | refine n_brT ?_ ?_); (focus (first | (simp [hil]; done) | (simp [hil]; omega) | (simp only [hil]; simp; done)))) | (refine n_brF ?_ ?_; (focus (first | (simp [hil]; done) | (simp [hil]; omega) | (simp only [hil]; simp; done)))) | refine n_must (by (with_reducible refine and_shape ?_) <;> kernel_rfl) ?_); (refine gs ?_)))
    refine n_exit rfl ?_
    (refine gs ?_)
    refine gw ?_
    refine n_sliceHi (n := L.length) (s := 7) rfl rfl elemVw sizeView rfl rfl (by omega) ?_
    (refine gs ?_)
    refine gw ?_
    refine n_appendN (nv := vws (bads L.length)) rfl rfl rfl elemVw hitt hpt.1 hpt.2.1 hpt.2.2 rfl (by omega) rfl rfl (bads_len _) (fun _ w1 _ hI1 => hpre2 (hI1.res 6 rfl rfl)) (vws_one _) (by omega) (by omega) ?_
    rintro ⟨oy, cy⟩ _
    dsimp only
    (refine gs ?_)
    refine gw ?_
    refine n_sliceHi (n := L.length) (s := 7) rfl rfl elemVw sizeView rfl rfl (by omega) ?_
    (refine gs ?_)
    refine gw ?_
    refine n_callR (Y := Unit) 1 (fun _ => viewsRes v mb nb (s1.take from_ (bads L.length)).1) (fun _ => .tup [.int .i64 (r1.take from_ (bads L.length)).2.1, .int .i64 (r1.take from_ (bads L.length)).2.2]) (fun _ => .tuple #[.int .i64 (r1.take from_ (bads L.length)).2.1, .int .i64 (r1.take from_ (bads L.length)).2.2]) (fun _ => True) rfl rfl (fun _ => rfl) rfl rfl rfl (fun _ w1 _ hI1 hR1 =>
      (Take_n hR1 (by omega) from_ hfr (by omega) (by simp) cc (hpre2 (hI1.res 6 rfl rfl)) (fun x hx hx2 => hI1.res_res 1 6 (by decide) rfl rfl rfl rfl x hx (rd_inR hx2))).mono fun e w' ⟨he, hp⟩ => ⟨(), by rw [he, hk2], trivial, hp⟩) ?_
    intro _ _
    (refine gs ?_)
    refine gw ?_
    refine n_callR (Y := Option Addr × Nat) 2 (fun y => rvRes q y.1 y.2 (r1.take from_ (bads L.length)).1) (fun _ => .tup [.int .i64 (r1.take from_ (bads L.length)).2.1, .int .i64 (r1.take from_ (bads L.length)).2.2]) (fun _ => .tuple #[.int .i64 (r1.take from_ (bads L.length)).2.1, .int .i64 (r1.take from_ (bads L.length)).2.2]) (fun _ => True) rfl rfl (fun _ => rfl) rfl rfl rfl (fun _ w1 _ hI1 hR1 =>
      rTake_n hR1 (by omega) from_ (by simp) cy (rd_of_row (hI1.res 8 rfl rfl)) (fun x hx hx2 => hI1.res_res 2 8 (by decide) rfl rfl rfl rfl x hx (rd_inR hx2))) ?_
    rintro ⟨oc5, oc6⟩ _
    dsimp only
    (refine gs ?_)
    refine gw ?_
    refine n_ret0 rfl rfl fun ids' w' hp hI' => ⟨⟨v, mb, nb, (s1.take from_ (bads L.length)).1, q, (oc5, oc6), (r1.take from_ (bads L.length)).1, dg, kn⟩, ret_bool (by simp), ⟨⟨hrel2, hn, by dsimp only; omega, hdg, hkn⟩, rfl, rfl⟩, ?_⟩
    exact post_shut (ids := [b, 0, 0, 0, 0]) (mem := pqMem bk ⟨v, mb, nb, (s1.take from_ (bads L.length)).1, q, (oc5, oc6), (r1.take from_ (bads L.length)).1, dg, kn⟩) (ρ := pqRes b bk ⟨v, mb, nb, s, q, (oc1, oc2), r, dg, kn⟩) hI' rfl [0, 1, 2, 3, 4] (.blk rfl (pre_at hp rfl) rfl rfl (.res rfl (.res rfl (.res rfl (.res rfl .nil))))) (by decide)
end
end Go.Proofs.Ytcpecnpnnodfhaa
