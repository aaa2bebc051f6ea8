/- Chapter 9's law: played, where there is no other. -/
import Derived.Test.YtcpecnpnnodfhaaVxF
set_option maxRecDepth 100000
set_option linter.unusedSimpArgs false
set_option linter.unusedVariables false
set_option maxHeartbeats 8000000
namespace Go.Proofs.Ytcpecnpnnodfhaa
open Go.RowKit

abbrev olM (a bk : Nat) (P : Pq) (B : Bk) : Mem := [⟨72, [.res (pqRes a bk P)], true⟩, ⟨69, [.res (bkRes bk B)], true⟩]
abbrev olRes (z a bk : Nat) (P : Pq) (B : Bk) : Res := memRes [0, z] (olM a bk P B)
theorem played2_ok {z a bk n N : Nat} {P : Pq} {B : Bk} {x : Oq} {w : World} (hS : P.ok n N) (hB : B.ok N) (hN : N ≤ 300) (hx : x.good) (hR : (olRes z a bk P B).R w) (hV : (readRes x.vo (vws x.V)).R w) (hap : ∀ k ∈ (olRes z a bk P B).fp, k ∉ (readRes x.vo (vws x.V)).fp)
    (hdig : x.k = 3 → DigC a bk n N P B) (hknw : x.k = 5 → KnwC a bk n N P B x.nm) :
    Calls Try.prog 23 #[pV a, x.val, Value.pointer none] w fun e w' => ∃ y : Pq × Bk, e = .returned (.bool true) ∧ (y.1.ok n (N + 1) ∧ y.2.ok (N + 1) ∧ (y.2 = B ∨ x.k = 3 ∨ x.k = 5)) ∧ Post (olRes z a bk P B) (olRes z a bk y.1 y.2) w w' := by
  have hI : Inv (cx 109 [(17, .of [(0, []), (1, []), (2, []), (3, []), (4, []), (5, []), (6, []), (7, [2]), (8, []), (9, [])])] (olRes z a bk P B).fp w) w [0, z] (olM a bk P B) := memRes_open hR fun k hk => hk
  have hVlt := rd_lt hV
  have hV1 : ∀ w1, Frm (olRes z a bk P B).fp w w1 → (readRes x.vo (vws x.V)).R w1 := fun w1 hf => (readRes x.vo (vws x.V)).stable _ _ (fun k hk => hf.block k (hVlt k hk) (fun h => hap k h hk)) hV
  have hall := hS.all
  have hB' := hB.mono (show N ≤ N + 1 by omega)
  have hS' := hS.mono (show N ≤ N + 1 by omega)
  obtain ⟨hxa, hxn, hxl⟩ := hx
  refine calls_sm (cx 109 [(17, .of [(0, []), (1, []), (2, []), (3, []), (4, []), (5, []), (6, []), (7, [2]), (8, []), (9, [])])] (olRes z a bk P B).fp w) (vals := [.raw (pV a), .agg x.sv, .nilp]) mixed Try.func23 rfl rfl rfl hI rfl (st rfl ?_); conv => arg 3; whnf
  refine gw ?_
  by_cases k1 : x.k = 1
  · as_aux_lemma =>
    (repeat ((first | refine n_must rfl ?_ | refine n_chk (drawF_ok (by decide +kernel)) ?_ | refine n_same rfl ?_ | ((first | refine n_must ?_ ?_ | refine n_brT ?_ ?_); (focus (first | (simp [k1]; done) | (simp [k1]; omega) | (simp only [k1]; simp; done)))) | (refine n_brF ?_ ?_; (focus (first | (simp [k1]; done) | (simp [k1]; omega) | (simp only [k1]; simp; done)))) | refine n_must (by (with_reducible refine and_shape ?_) <;> kernel_rfl) ?_); (refine gs ?_)))
    (refine n_ldA (.raw (pV (P).v)) rfl (by first | exact trivial | rfl) rfl (fun _ w1 _ hI1 => load_cell aggPv (pq_cell (hI1.res 0 rfl rfl) (j := 0) rfl rfl)) ?_; (refine gs ?_))
    refine gw ?_
    obtain ⟨ht1, _⟩ := told_ok hS (by omega) x.nm x.a x.b x.rd x.ru x.h (none, 0)
    refine n_callR (Y := Unit) 0 (fun _ => pqRes a bk ((P).tell ⟨x.nm, x.a, x.b, 1, x.rd, x.ru, x.h⟩)) (fun _ => .int .i64 ((P).r.tell ⟨x.nm, x.a, x.b, 1, x.rd, x.ru, x.h⟩).2) (fun _ => .int .i64 ((P).r.tell ⟨x.nm, x.a, x.b, 1, x.rd, x.ru, x.h⟩).2) (fun _ => True) rfl rfl (fun _ => rfl) rfl rfl rfl (fun _ w1 _ hI1 hR1 => (tell_pq hS (by omega) hR1 x.nm x.a x.b x.rd x.ru x.h hxn).mono fun e w' ⟨he, hp⟩ => ⟨(), by rw [he, ht1], trivial, hp⟩) ?_
    intro _ _
    (refine gs ?_)
    refine gw ?_
    (refine n_ldA (.raw (pV (P).q)) rfl (by first | exact trivial | rfl) rfl (fun _ w1 _ hI1 => load_cell aggPr (pq_cell (hI1.res 0 rfl rfl) (j := 1) rfl rfl)) ?_; (refine gs ?_))
    refine gw ?_
    refine n_callR (Y := Option Addr × Nat) 0 (fun y => pqRes a bk (((P).tell ⟨x.nm, x.a, x.b, 1, x.rd, x.ru, x.h⟩).rtell ⟨x.nm, x.a, x.b, 1, x.rd, x.ru, x.h⟩ y)) (fun _ => .int .i64 ((P).r.tell ⟨x.nm, x.a, x.b, 1, x.rd, x.ru, x.h⟩).2) (fun _ => .int .i64 ((P).r.tell ⟨x.nm, x.a, x.b, 1, x.rd, x.ru, x.h⟩).2) (fun _ => True) rfl rfl (fun _ => rfl) rfl rfl rfl (fun _ w1 _ hI1 hR1 => rtell_pq (P := (P).tell ⟨x.nm, x.a, x.b, 1, x.rd, x.ru, x.h⟩) (by show (P).r.All.length ≤ _; omega) hR1 x.nm x.a x.b x.rd x.ru x.h) ?_
    intro y _
    (refine gs ?_)
    refine gw ?_
    obtain ⟨_, ht2⟩ := told_ok hS (by omega) x.nm x.a x.b x.rd x.ru x.h y
    refine n_ret0 rfl rfl fun ids' w' hp hI' => ⟨(((P).tell ⟨x.nm, x.a, x.b, 1, x.rd, x.ru, x.h⟩).rtell ⟨x.nm, x.a, x.b, 1, x.rd, x.ru, x.h⟩ y, B), ret_bool (by simp), ⟨ht2, hB', .inl rfl⟩, ?_⟩
    exact post_shut (ids := [0, z]) (mem := olM a bk _ _) (ρ := olRes z a bk P B) hI' rfl [0, 1] (.res rfl (.res rfl .nil)) (by decide)
  by_cases k2 : x.k = 2
  · as_aux_lemma =>
    (repeat ((first | refine n_must rfl ?_ | refine n_chk (drawF_ok (by decide +kernel)) ?_ | refine n_same rfl ?_ | ((first | refine n_must ?_ ?_ | refine n_brT ?_ ?_); (focus (first | (simp [k1, k2]; done) | (simp [k1, k2]; omega) | (simp only [k1, k2]; simp; done)))) | (refine n_brF ?_ ?_; (focus (first | (simp [k1, k2]; done) | (simp [k1, k2]; omega) | (simp only [k1, k2]; simp; done)))) | refine n_must (by (with_reducible refine and_shape ?_) <;> kernel_rfl) ?_); (refine gs ?_)))
    refine n_callR (Y := Pq) 0 (fun y => pqRes a bk y) (fun _ => .bool true) (fun _ => .bool true) (fun y => y.ok n (N + 1)) rfl rfl (fun _ => rfl) rfl rfl rfl (fun _ w1 _ hI1 hR1 => (takes_ok hS (by omega) hxa hR1 (hV1 _ hI1.frm) (fun k hk hk2 => by
      rcases hI1.own 0 _ rfl rfl k hk with h | h
      · exact hap k h hk2
      · have := hVlt k hk2
        have h : w.heap.size ≤ k := h
        omega) hxl).mono fun e w' ⟨y, he, hy, hp⟩ => ⟨y, he, hy.1, hp⟩) ?_
    intro y hy
    (refine gs ?_)
    refine gw ?_
    refine n_ret0 rfl rfl fun ids' w' hp hI' => ⟨(y, B), rfl, ⟨hy, hB', .inl rfl⟩, ?_⟩
    exact post_shut (ids := [0, z]) (mem := olM a bk _ _) (ρ := olRes z a bk P B) hI' rfl [0, 1] (.res rfl (.res rfl .nil)) (by decide)
  by_cases k3 : x.k = 3
  · as_aux_lemma =>
    (repeat ((first | refine n_must rfl ?_ | refine n_chk (drawF_ok (by decide +kernel)) ?_ | refine n_same rfl ?_ | ((first | refine n_must ?_ ?_ | refine n_brT ?_ ?_); (focus (first | (simp [k1, k2, k3]; done) | (simp [k1, k2, k3]; omega) | (simp only [k1, k2, k3]; simp; done)))) | (refine n_brF ?_ ?_; (focus (first | (simp [k1, k2, k3]; done) | (simp [k1, k2, k3]; omega) | (simp only [k1, k2, k3]; simp; done)))) | refine n_must (by (with_reducible refine and_shape ?_) <;> kernel_rfl) ?_); (refine gs ?_)))
    refine n_call1 rfl fun b3 => ?_
    refine n_callX [] _ rfl (fun w1 hI1 => (by have h := hI1.absorb 0 1 (by decide) rfl rfl rfl rfl rfl rfl; rw [List.append_nil]; exact h)) ?_
    refine n_callR (Y := Pq × Bk) 0 (fun y => (pqRes a bk y.1).both (bkRes bk y.2)) (fun _ => .bool true) (fun _ => .bool true) (fun y => y.1.ok n (N + 1) ∧ y.2.ok (N + 1)) rfl rfl (fun _ => rfl) rfl rfl rfl (fun _ w1 _ hI1 hR1 => (hdig k3) w1 hR1) ?_
    rintro ⟨y, B2⟩ ⟨hy, hB2⟩
    dsimp only at hy hB2 ⊢
    (refine gs ?_)
    refine gw ?_
    refine n_ret0 rfl rfl fun ids' w' hp hI' => ⟨(y, B2), rfl, ⟨hy, hB2, .inr (.inl k3)⟩, ?_⟩
    have h2 := hI'.part2 0 rfl rfl 69
    exact post_shut (ids := [0, z]) (mem := olM a bk _ _) (ρ := olRes z a bk P B) h2 rfl [0, 3] (.res rfl (.res rfl .nil)) (by decide)
  by_cases k4 : x.k = 4
  · as_aux_lemma =>
    (repeat ((first | refine n_must rfl ?_ | refine n_chk (drawF_ok (by decide +kernel)) ?_ | refine n_same rfl ?_ | ((first | refine n_must ?_ ?_ | refine n_brT ?_ ?_); (focus (first | (simp [k1, k2, k3, k4]; done) | (simp [k1, k2, k3, k4]; omega) | (simp only [k1, k2, k3, k4]; simp; done)))) | (refine n_brF ?_ ?_; (focus (first | (simp [k1, k2, k3, k4]; done) | (simp [k1, k2, k3, k4]; omega) | (simp only [k1, k2, k3, k4]; simp; done)))) | refine n_must (by (with_reducible refine and_shape ?_) <;> kernel_rfl) ?_); (refine gs ?_)))
    (refine n_ldA (.raw (pV (P).v)) rfl (by first | exact trivial | rfl) rfl (fun _ w1 _ hI1 => load_cell aggPv (pq_cell (hI1.res 0 rfl rfl) (j := 0) rfl rfl)) ?_; (refine gs ?_))
    refine gw ?_
    refine n_sameP (.tup [.int .i64 (wr (rAboutD (P).r.All x.nm n)), .bool (rAboutB (P).r.All x.nm n)]) rfl rfl rfl (fun _ w1 hp1 hI1 => about_pq hS (hI1.res 0 rfl rfl) x.nm hxn) ?_; (refine gs ?_)
    refine gw ?_
    (refine n_ldA (.raw (pV (P).q)) rfl (by first | exact trivial | rfl) rfl (fun _ w1 _ hI1 => load_cell aggPr (pq_cell (hI1.res 0 rfl rfl) (j := 1) rfl rfl)) ?_; (refine gs ?_))
    refine gw ?_
    refine n_sameP (.tup [.int .i64 (wr (rAboutD (P).r.All x.nm n)), .bool (rAboutB (P).r.All x.nm n)]) rfl rfl rfl (fun _ w1 hp1 hI1 => rabout_pq hS (by omega) (hI1.res 0 rfl rfl) x.nm) ?_; (refine gs ?_)
    refine gw ?_
    refine n_ret0 rfl rfl fun ids' w' hp hI' => ⟨(P, B), ret_bool (by simp), ⟨hS', hB', .inl rfl⟩, ?_⟩
    exact post_shut (ids := [0, z]) (mem := olM a bk _ _) (ρ := olRes z a bk P B) hI' rfl [0, 1] (.res rfl (.res rfl .nil)) (by decide)
  by_cases k5 : x.k = 5
  · as_aux_lemma =>
    (repeat ((first | refine n_must rfl ?_ | refine n_chk (drawF_ok (by decide +kernel)) ?_ | refine n_same rfl ?_ | ((first | refine n_must ?_ ?_ | refine n_brT ?_ ?_); (focus (first | (simp [k1, k2, k3, k4, k5]; done) | (simp [k1, k2, k3, k4, k5]; omega) | (simp only [k1, k2, k3, k4, k5]; simp; done)))) | (refine n_brF ?_ ?_; (focus (first | (simp [k1, k2, k3, k4, k5]; done) | (simp [k1, k2, k3, k4, k5]; omega) | (simp only [k1, k2, k3, k4, k5]; simp; done)))) | refine n_must (by (with_reducible refine and_shape ?_) <;> kernel_rfl) ?_); (refine gs ?_)))
    refine n_call1 rfl fun b3 => ?_
    refine n_callX [] _ rfl (fun w1 hI1 => (by have h := hI1.absorb 0 1 (by decide) rfl rfl rfl rfl rfl rfl; rw [List.append_nil]; exact h)) ?_
    refine n_callR (Y := Pq × Bk) 0 (fun y => (pqRes a bk y.1).both (bkRes bk y.2)) (fun _ => .bool true) (fun _ => .bool true) (fun y => y.1.ok n (N + 1) ∧ y.2.ok (N + 1)) rfl rfl (fun _ => rfl) rfl rfl rfl (fun _ w1 _ hI1 hR1 => (hknw k5) w1 hR1) ?_
    rintro ⟨y, B2⟩ ⟨hy, hB2⟩
    dsimp only at hy hB2 ⊢
    (refine gs ?_)
    refine gw ?_
    refine n_ret0 rfl rfl fun ids' w' hp hI' => ⟨(y, B2), rfl, ⟨hy, hB2, .inr (.inr k5)⟩, ?_⟩
    have h2 := hI'.part2 0 rfl rfl 69
    exact post_shut (ids := [0, z]) (mem := olM a bk _ _) (ρ := olRes z a bk P B) h2 rfl [0, 3] (.res rfl (.res rfl .nil)) (by decide)
  by_cases k6 : x.k = 6
  · as_aux_lemma =>
    (repeat ((first | refine n_must rfl ?_ | refine n_chk (drawF_ok (by decide +kernel)) ?_ | refine n_same rfl ?_ | ((first | refine n_must ?_ ?_ | refine n_brT ?_ ?_); (focus (first | (simp [k1, k2, k3, k4, k5, k6]; done) | (simp [k1, k2, k3, k4, k5, k6]; omega) | (simp only [k1, k2, k3, k4, k5, k6]; simp; done)))) | (refine n_brF ?_ ?_; (focus (first | (simp [k1, k2, k3, k4, k5, k6]; done) | (simp [k1, k2, k3, k4, k5, k6]; omega) | (simp only [k1, k2, k3, k4, k5, k6]; simp; done)))) | refine n_must (by (with_reducible refine and_shape ?_) <;> kernel_rfl) ?_); (refine gs ?_)))
    refine n_ret0 rfl rfl fun ids' w' hp hI' => ⟨(P, B), rfl, ⟨hS', hB', .inl rfl⟩, ?_⟩
    exact post_shut (ids := [0, z]) (mem := olM a bk _ _) (ρ := olRes z a bk P B) hI' rfl [0, 1] (.res rfl (.res rfl .nil)) (by decide)
  · as_aux_lemma =>
    (repeat ((first | refine n_must rfl ?_ | refine n_chk (drawF_ok (by decide +kernel)) ?_ | refine n_same rfl ?_ | ((first | refine n_must ?_ ?_ | refine n_brT ?_ ?_); (focus (first | (simp [k1, k2, k3, k4, k5, k6]; done) | (simp [k1, k2, k3, k4, k5, k6]; omega) | (simp only [k1, k2, k3, k4, k5, k6]; simp; done)))) | (refine n_brF ?_ ?_; (focus (first | (simp [k1, k2, k3, k4, k5, k6]; done) | (simp [k1, k2, k3, k4, k5, k6]; omega) | (simp only [k1, k2, k3, k4, k5, k6]; simp; done)))) | refine n_must (by (with_reducible refine and_shape ?_) <;> kernel_rfl) ?_); (refine gs ?_)))
    refine n_ret0 rfl rfl fun ids' w' hp hI' => ⟨(P, B), rfl, ⟨hS', hB', .inl rfl⟩, ?_⟩
    exact post_shut (ids := [0, z]) (mem := olM a bk _ _) (ρ := olRes z a bk P B) hI' rfl [0, 1] (.res rfl (.res rfl .nil)) (by decide)
end Go.Proofs.Ytcpecnpnnodfhaa
