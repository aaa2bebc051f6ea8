/- Chapter 9's law: played. Chapter 9's law: played, where there is no other. -/
import Derived.Test.YtcpecnpnnodfhaaBnVd
namespace Go.Proofs.Ytcpecnpnnodfhaa
section
set_option maxRecDepth 100000
set_option linter.unusedSimpArgs false
set_option linter.unusedVariables false
set_option maxHeartbeats 8000000
open Go.RowKit

structure Oq where
  k : Int
  who : Int
  a : Int
  b : Int
  h : Int
  nm : ByteArray
  rd : Int
  ru : Int
  vo : Option Addr
  vc : Nat
  V : List Vw
abbrev Oq.l (o : Oq) : List Value := [.int .i64 o.k, .int .i64 o.who, .int .i64 o.a, .int .i64 o.b, .int .i64 o.h, .string o.nm, .int .i64 o.rd, .int .i64 o.ru, .slice o.vo o.V.length o.vc]
abbrev Oq.sv (o : Oq) : List SV := [.int .i64 o.k, .int .i64 o.who, .int .i64 o.a, .int .i64 o.b, .int .i64 o.h, .str o.nm, .int .i64 o.rd, .int .i64 o.ru, .raw (.slice o.vo o.V.length o.vc)]
abbrev Oq.val (o : Oq) : Value := .agg #[.int .i64 o.k, .int .i64 o.who, .int .i64 o.a, .int .i64 o.b, .int .i64 o.h, .string o.nm, .int .i64 o.rd, .int .i64 o.ru, .slice o.vo o.V.length o.vc]
theorem oq_len (o : Oq) : o.l.length = 9 := rfl
structure Oq.good (o : Oq) : Prop where
  a : i64 o.a
  nm : o.nm.size ≤ maxLen
  len : (o.V.length + 2) * 64 ≤ 140737488355328

def DigC (b bk n N : Nat) (P : Pq) (B : Bk) : Prop := ∀ w, ((pqRes b bk P).both (bkRes bk B)).R w → Calls Try.prog 37 #[pV b] w fun e w' => ∃ y : Pq × Bk, e = .returned (.bool true) ∧ (y.1.ok n (N + 1) ∧ y.2.ok (N + 1)) ∧ Post ((pqRes b bk P).both (bkRes bk B)) ((pqRes b bk y.1).both (bkRes bk y.2)) w w'
def KnwC (b bk n N : Nat) (P : Pq) (B : Bk) (nm : ByteArray) : Prop := ∀ w, ((pqRes b bk P).both (bkRes bk B)).R w → Calls Try.prog 39 #[pV b, .string nm] w fun e w' => ∃ y : Pq × Bk, e = .returned (.bool true) ∧ (y.1.ok n (N + 1) ∧ y.2.ok (N + 1)) ∧ Post ((pqRes b bk P).both (bkRes bk B)) ((pqRes b bk y.1).both (bkRes bk y.2)) w w'
theorem Pq.ok.mono {P : Pq} {n N M : Nat} (h : P.ok n N) (hm : N ≤ M) : P.ok n M := ⟨h.rel, h.n, by have := h.all; omega, h.dg, h.kn⟩
theorem rDig_len (r : Rv) : (rDigF r).length ≤ r.All.length := by unfold rDigF; rw [List.length_map]; exact namesF_len _ _
abbrev plM (a b bk : Nat) (P Q : Pq) (B : Bk) : Mem := [⟨72, [.res (pqRes a bk P)], true⟩, ⟨72, [.res (pqRes b bk Q)], true⟩, ⟨69, [.res (bkRes bk B)], true⟩]
abbrev plRes (z a b bk : Nat) (P Q : Pq) (B : Bk) : Res := memRes [0, 0, z] (plM a b bk P Q B)
theorem about_pq {b bk n N : Nat} {P : Pq} {w : World} (hP : P.ok n N) (hR : (pqRes b bk P).R w) (nm : ByteArray) (hnm : nm.size ≤ maxLen) :
    Calls Try.prog 17 #[pV P.v, .string nm] w fun e w' => e = .returned (.tuple #[.int .i64 (wr (rAboutD P.r.All nm n)), .bool (rAboutB P.r.All nm n)]) ∧ Frm [] w w' := by
  have hV : (viewsRes P.v P.mb P.nb P.s).R w := memRes_res hR 1 rfl rfl
  obtain ⟨h1, h2⟩ := about_like hP.rel hV.2.1.nodup nm
  rw [← h1, ← h2]
  exact About_ok hV nm hnm
theorem rabout_pq {b bk n N : Nat} {P : Pq} {w : World} (hP : P.ok n N) (hN : N ≤ 400) (hR : (pqRes b bk P).R w) (nm : ByteArray) :
    Calls Try.prog 38 #[pV P.q, .string nm] w fun e w' => e = .returned (.tuple #[.int .i64 (wr (rAboutD P.r.All nm n)), .bool (rAboutB P.r.All nm n)]) ∧ Frm [] w w' :=
  rAbout_ok (memRes_res hR 2 rfl rfl) (by have := hP.all; omega) hP.rel.rn (by have := hP.n; omega) nm
theorem played0_ok {z a b bk n N : Nat} {P Q : Pq} {B : Bk} {x : Oq} {w : World} (hP : P.ok n N) (hQ : Q.ok n N) (hB : B.ok N) (hN : N ≤ 300) (hx : x.good) (hR : (plRes z a b bk P Q B).R w) (hV : (readRes x.vo (vws x.V)).R w) (hap : ∀ k ∈ (plRes z a b bk P Q B).fp, k ∉ (readRes x.vo (vws x.V)).fp)
    (hdig : x.k = 3 → DigC a bk n N P B) (hknw : x.k = 5 → KnwC a bk n N P B x.nm) :
    Calls Try.prog 23 #[pV a, x.val, pV b] w fun e w' => ∃ y : Pq × Bk, e = .returned (.bool true) ∧ (y.1.ok n (N + 1) ∧ y.2.ok (N + 1) ∧ (y.2 = B ∨ x.k = 3 ∨ x.k = 5)) ∧ Post (plRes z a b bk P Q B) (plRes z a b bk y.1 Q y.2) w w' := by
  have hI : Inv (cx 109 [(17, .of [(0, []), (1, []), (2, []), (3, []), (4, []), (5, []), (6, []), (7, [2]), (8, []), (9, [])])] (plRes z a b bk P Q B).fp w) w [0, 0, z] (plM a b bk P Q B) := memRes_open hR fun k hk => hk
  have hS : (P).ok n N := by assumption
  have hO : (Q).ok n N := by assumption
  have hVlt := rd_lt hV
  have hV1 : ∀ w1, Frm (plRes z a b bk P Q B).fp w w1 → (readRes x.vo (vws x.V)).R w1 := fun w1 hf => (readRes x.vo (vws x.V)).stable _ _ (fun k hk => hf.block k (hVlt k hk) (fun h => hap k h hk)) hV
  have hall := hS.all
  have hallO := hO.all
  have hB' := hB.mono (show N ≤ N + 1 by omega)
  have hS' := hS.mono (show N ≤ N + 1 by omega)
  obtain ⟨hxa, hxn, hxl⟩ := hx
  refine calls_sm (cx 109 [(17, .of [(0, []), (1, []), (2, []), (3, []), (4, []), (5, []), (6, []), (7, [2]), (8, []), (9, [])])] (plRes z a b bk P Q B).fp w) (vals := [.raw (pV a), .agg x.sv, .raw (pV b)]) mixed Try.func23 rfl rfl rfl hI rfl (st rfl ?_); conv => arg 3; whnf
  refine gw ?_
  by_cases k1 : x.k = 1
  · as_aux_lemma =>
    (repeat ((first | refine n_must rfl ?_ | refine n_chk (drawF_ok (by decide +kernel)) ?_ | refine n_same rfl ?_ | ((first | refine n_must ?_ ?_ | refine n_brT ?_ ?_); (focus (first | (simp [k1]; done) | (simp [k1]; omega) | (simp only [k1]; simp; done)))) | (refine n_brF ?_ ?_; (focus (first | (simp [k1]; done) | (simp [k1]; omega) | (simp only [k1]; simp; done)))) | refine n_must (by (with_reducible refine and_shape ?_) <;> kernel_rfl) ?_); (refine gs ?_)))
    (refine n_ldA (.raw (pV (P).v)) rfl (by first | exact trivial | rfl) rfl (fun _ w1 _ hI1 => load_cell aggPv (pq_cell (hI1.res 0 rfl rfl) (j := 0) rfl rfl)) ?_; (refine gs ?_))
    refine gw ?_
    obtain ⟨ht1, _⟩ := told_ok hS (by omega) x.nm x.a x.b x.rd x.ru x.h (none, 0)
    refine n_callR (Y := Unit) 0 (fun _ => pqRes a bk ((P).tell ⟨x.nm, x.a, x.b, 1, x.rd, x.ru, x.h⟩)) (fun _ => .int .i64 ((P).r.tell ⟨x.nm, x.a, x.b, 1, x.rd, x.ru, x.h⟩).2) (fun _ => .int .i64 ((P).r.tell ⟨x.nm, x.a, x.b, 1, x.rd, x.ru, x.h⟩).2) (fun _ => True) rfl rfl (fun _ => rfl) rfl rfl rfl (fun _ w1 _ hI1 hR1 => (tell_pq hS (by omega) hR1 x.nm x.a x.b x.rd x.ru x.h hxn).mono fun e w' ⟨he, hp⟩ => ⟨(), by rw [he, ht1], trivial, hp⟩) ?_
    intro _ _
    (refine gs ?_)
    refine gw ?_
    (refine n_ldA (.raw (pV (P).q)) rfl (by first | exact trivial | rfl) rfl (fun _ w1 _ hI1 => load_cell aggPr (pq_cell (hI1.res 0 rfl rfl) (j := 1) rfl rfl)) ?_; (refine gs ?_))
    refine gw ?_
    refine n_callR (Y := Option Addr × Nat) 0 (fun y => pqRes a bk (((P).tell ⟨x.nm, x.a, x.b, 1, x.rd, x.ru, x.h⟩).rtell ⟨x.nm, x.a, x.b, 1, x.rd, x.ru, x.h⟩ y)) (fun _ => .int .i64 ((P).r.tell ⟨x.nm, x.a, x.b, 1, x.rd, x.ru, x.h⟩).2) (fun _ => .int .i64 ((P).r.tell ⟨x.nm, x.a, x.b, 1, x.rd, x.ru, x.h⟩).2) (fun _ => True) rfl rfl (fun _ => rfl) rfl rfl rfl (fun _ w1 _ hI1 hR1 => rtell_pq (P := (P).tell ⟨x.nm, x.a, x.b, 1, x.rd, x.ru, x.h⟩) (by show (P).r.All.length ≤ _; omega) hR1 x.nm x.a x.b x.rd x.ru x.h) ?_
    intro y _
    (refine gs ?_)
    refine gw ?_
    obtain ⟨_, ht2⟩ := told_ok hS (by omega) x.nm x.a x.b x.rd x.ru x.h y
    refine n_ret0 rfl rfl fun ids' w' hp hI' => ⟨(((P).tell ⟨x.nm, x.a, x.b, 1, x.rd, x.ru, x.h⟩).rtell ⟨x.nm, x.a, x.b, 1, x.rd, x.ru, x.h⟩ y, B), ret_bool (by simp), ⟨ht2, hB', .inl rfl⟩, ?_⟩
    exact post_shut (ids := [0, 0, z]) (mem := plM a b bk _ Q _) (ρ := plRes z a b bk P Q B) hI' rfl [0, 1, 2] (.res rfl (.res rfl (.res rfl .nil))) (by decide)
  by_cases k2 : x.k = 2
  · as_aux_lemma =>
    (repeat ((first | refine n_must rfl ?_ | refine n_chk (drawF_ok (by decide +kernel)) ?_ | refine n_same rfl ?_ | ((first | refine n_must ?_ ?_ | refine n_brT ?_ ?_); (focus (first | (simp [k1, k2]; done) | (simp [k1, k2]; omega) | (simp only [k1, k2]; simp; done)))) | (refine n_brF ?_ ?_; (focus (first | (simp [k1, k2]; done) | (simp [k1, k2]; omega) | (simp only [k1, k2]; simp; done)))) | refine n_must (by (with_reducible refine and_shape ?_) <;> kernel_rfl) ?_); (refine gs ?_)))
    refine n_callR (Y := Pq) 0 (fun y => pqRes a bk y) (fun _ => .bool true) (fun _ => .bool true) (fun y => y.ok n (N + 1)) rfl rfl (fun _ => rfl) rfl rfl rfl (fun _ w1 _ hI1 hR1 => (takes_ok hS (by omega) hxa hR1 (hV1 _ hI1.frm) (fun k hk hk2 => by
      rcases hI1.own 0 _ rfl rfl k hk with h | h
      · exact hap k h hk2
      · have := hVlt k hk2
        have h : w.heap.size ≤ k := h
        omega) hxl).mono fun e w' ⟨y, he, hy, hp⟩ => ⟨y, he, hy.1, hp⟩) ?_
    intro y hy
    (refine gs ?_)
    refine gw ?_
    refine n_ret0 rfl rfl fun ids' w' hp hI' => ⟨(y, B), rfl, ⟨hy, hB', .inl rfl⟩, ?_⟩
    exact post_shut (ids := [0, 0, z]) (mem := plM a b bk _ Q _) (ρ := plRes z a b bk P Q B) hI' rfl [0, 1, 2] (.res rfl (.res rfl (.res rfl .nil))) (by decide)
  by_cases k3 : x.k = 3
  · as_aux_lemma =>
    (repeat ((first | refine n_must rfl ?_ | refine n_chk (drawF_ok (by decide +kernel)) ?_ | refine n_same rfl ?_ | ((first | refine n_must ?_ ?_ | refine n_brT ?_ ?_); (focus (first | (simp [k1, k2, k3]; done) | (simp [k1, k2, k3]; omega) | (simp only [k1, k2, k3]; simp; done)))) | (refine n_brF ?_ ?_; (focus (first | (simp [k1, k2, k3]; done) | (simp [k1, k2, k3]; omega) | (simp only [k1, k2, k3]; simp; done)))) | refine n_must (by (with_reducible refine and_shape ?_) <;> kernel_rfl) ?_); (refine gs ?_)))
    refine n_call1 rfl fun b3 => ?_
    refine n_callX [] _ rfl (fun w1 hI1 => (by have h := hI1.absorb 0 2 (by decide) rfl rfl rfl rfl rfl rfl; rw [List.append_nil]; exact h)) ?_
    refine n_callR (Y := Pq × Bk) 0 (fun y => (pqRes a bk y.1).both (bkRes bk y.2)) (fun _ => .bool true) (fun _ => .bool true) (fun y => y.1.ok n (N + 1) ∧ y.2.ok (N + 1)) rfl rfl (fun _ => rfl) rfl rfl rfl (fun _ w1 _ hI1 hR1 => (hdig k3) w1 hR1) ?_
    rintro ⟨y, B2⟩ ⟨hy, hB2⟩
    dsimp only at hy hB2 ⊢
    (refine gs ?_)
    refine gw ?_
    refine n_ret0 rfl rfl fun ids' w' hp hI' => ⟨(y, B2), rfl, ⟨hy, hB2, .inr (.inl k3)⟩, ?_⟩
    have h2 := hI'.part2 0 rfl rfl 69
    exact post_shut (ids := [0, 0, z]) (mem := plM a b bk _ Q _) (ρ := plRes z a b bk P Q B) h2 rfl [0, 1, 4] (.res rfl (.res rfl (.res rfl .nil))) (by decide)
  by_cases k4 : x.k = 4
  · as_aux_lemma =>
    (repeat ((first | refine n_must rfl ?_ | refine n_chk (drawF_ok (by decide +kernel)) ?_ | refine n_same rfl ?_ | ((first | refine n_must ?_ ?_ | refine n_brT ?_ ?_); (focus (first | (simp [k1, k2, k3, k4]; done) | (simp [k1, k2, k3, k4]; omega) | (simp only [k1, k2, k3, k4]; simp; done)))) | (refine n_brF ?_ ?_; (focus (first | (simp [k1, k2, k3, k4]; done) | (simp [k1, k2, k3, k4]; omega) | (simp only [k1, k2, k3, k4]; simp; done)))) | refine n_must (by (with_reducible refine and_shape ?_) <;> kernel_rfl) ?_); (refine gs ?_)))
    (refine n_ldA (.raw (pV (P).v)) rfl (by first | exact trivial | rfl) rfl (fun _ w1 _ hI1 => load_cell aggPv (pq_cell (hI1.res 0 rfl rfl) (j := 0) rfl rfl)) ?_; (refine gs ?_))
    refine gw ?_
    refine n_sameP (.tup [.int .i64 (wr (rAboutD (P).r.All x.nm n)), .bool (rAboutB (P).r.All x.nm n)]) rfl rfl rfl (fun _ w1 hp1 hI1 => about_pq hS (hI1.res 0 rfl rfl) x.nm hxn) ?_; (refine gs ?_)
    refine gw ?_
    (refine n_ldA (.raw (pV (P).q)) rfl (by first | exact trivial | rfl) rfl (fun _ w1 _ hI1 => load_cell aggPr (pq_cell (hI1.res 0 rfl rfl) (j := 1) rfl rfl)) ?_; (refine gs ?_))
    refine gw ?_
    refine n_sameP (.tup [.int .i64 (wr (rAboutD (P).r.All x.nm n)), .bool (rAboutB (P).r.All x.nm n)]) rfl rfl rfl (fun _ w1 hp1 hI1 => rabout_pq hS (by omega) (hI1.res 0 rfl rfl) x.nm) ?_; (refine gs ?_)
    refine gw ?_
    refine n_ret0 rfl rfl fun ids' w' hp hI' => ⟨(P, B), ret_bool (by simp), ⟨hS', hB', .inl rfl⟩, ?_⟩
    exact post_shut (ids := [0, 0, z]) (mem := plM a b bk _ Q _) (ρ := plRes z a b bk P Q B) hI' rfl [0, 1, 2] (.res rfl (.res rfl (.res rfl .nil))) (by decide)
  by_cases k5 : x.k = 5
  · as_aux_lemma =>
    (repeat ((first | refine n_must rfl ?_ | refine n_chk (drawF_ok (by decide +kernel)) ?_ | refine n_same rfl ?_ | ((first | refine n_must ?_ ?_ | refine n_brT ?_ ?_); (focus (first | (simp [k1, k2, k3, k4, k5]; done) | (simp [k1, k2, k3, k4, k5]; omega) | (simp only [k1, k2, k3, k4, k5]; simp; done)))) | (refine n_brF ?_ ?_; (focus (first | (simp [k1, k2, k3, k4, k5]; done) | (simp [k1, k2, k3, k4, k5]; omega) | (simp only [k1, k2, k3, k4, k5]; simp; done)))) | refine n_must (by (with_reducible refine and_shape ?_) <;> kernel_rfl) ?_); (refine gs ?_)))
    refine n_call1 rfl fun b3 => ?_
    refine n_callX [] _ rfl (fun w1 hI1 => (by have h := hI1.absorb 0 2 (by decide) rfl rfl rfl rfl rfl rfl; rw [List.append_nil]; exact h)) ?_
    refine n_callR (Y := Pq × Bk) 0 (fun y => (pqRes a bk y.1).both (bkRes bk y.2)) (fun _ => .bool true) (fun _ => .bool true) (fun y => y.1.ok n (N + 1) ∧ y.2.ok (N + 1)) rfl rfl (fun _ => rfl) rfl rfl rfl (fun _ w1 _ hI1 hR1 => (hknw k5) w1 hR1) ?_
    rintro ⟨y, B2⟩ ⟨hy, hB2⟩
    dsimp only at hy hB2 ⊢
    (refine gs ?_)
    refine gw ?_
    refine n_ret0 rfl rfl fun ids' w' hp hI' => ⟨(y, B2), rfl, ⟨hy, hB2, .inr (.inr k5)⟩, ?_⟩
    have h2 := hI'.part2 0 rfl rfl 69
    exact post_shut (ids := [0, 0, z]) (mem := plM a b bk _ Q _) (ρ := plRes z a b bk P Q B) h2 rfl [0, 1, 4] (.res rfl (.res rfl (.res rfl .nil))) (by decide)
  by_cases k6 : x.k = 6
  · as_aux_lemma =>
    (repeat ((first | refine n_must rfl ?_ | refine n_chk (drawF_ok (by decide +kernel)) ?_ | refine n_same rfl ?_ | ((first | refine n_must ?_ ?_ | refine n_brT ?_ ?_); (focus (first | (simp [k1, k2, k3, k4, k5, k6]; done) | (simp [k1, k2, k3, k4, k5, k6]; omega) | (simp only [k1, k2, k3, k4, k5, k6]; simp; done)))) | (refine n_brF ?_ ?_; (focus (first | (simp [k1, k2, k3, k4, k5, k6]; done) | (simp [k1, k2, k3, k4, k5, k6]; omega) | (simp only [k1, k2, k3, k4, k5, k6]; simp; done)))) | refine n_must (by (with_reducible refine and_shape ?_) <;> kernel_rfl) ?_); (refine gs ?_)))
    (refine n_ldA (.raw (pV (Q).q)) rfl (by first | exact trivial | rfl) rfl (fun _ w1 _ hI1 => load_cell aggPr (pq_cell (hI1.res 1 rfl rfl) (j := 1) rfl rfl)) ?_; (refine gs ?_))
    refine gw ?_
    refine n_call1 rfl fun b3 => ?_
    have hdl := rDig_len (Q).r
    refine n_callN (fun y : Option Addr × Nat => vRow y.1 (rDigF (Q).r).length y.2 (vws (rDigF (Q).r))) 49 (fun y => .raw (.slice y.1 (rDigF (Q).r).length y.2)) (fun y => .slice y.1 (rDigF (Q).r).length y.2) (fun _ => True) rfl rfl rfl (fun _ => rfl) (fun w1 hI1 => rDigest_ok (memRes_res (hI1.res 1 rfl rfl) 2 rfl rfl) (by omega)) ?_
    rintro ⟨od, cd⟩ _ _
    dsimp only
    (refine gs ?_)
    refine gw ?_
    refine n_callR (Y := Pq) 0 (fun y => pqRes a bk y) (fun _ => .bool true) (fun _ => .bool true) (fun y => y.ok n (N + 1)) rfl rfl (fun _ => rfl) rfl rfl rfl (fun _ w1 _ hI1 hR1 => (takes_ok hS (by omega) hxa hR1 (rd_of_row (hI1.res 4 rfl rfl)) (fun k hk hk2 => hI1.res_res 0 4 (by decide) rfl rfl rfl rfl k hk (rd_inR hk2)) (by omega)).mono fun e w' ⟨y, he, hy, hp⟩ => ⟨y, he, hy.1, hp⟩) ?_
    intro y hy
    (refine gs ?_)
    refine gw ?_
    refine n_ret0 rfl rfl fun ids' w' hp hI' => ⟨(y, B), rfl, ⟨hy, hB', .inl rfl⟩, ?_⟩
    exact post_shut (ids := [0, 0, z]) (mem := plM a b bk _ Q _) (ρ := plRes z a b bk P Q B) hI' rfl [0, 1, 2] (.res rfl (.res rfl (.res rfl .nil))) (by decide)
  · as_aux_lemma =>
    (repeat ((first | refine n_must rfl ?_ | refine n_chk (drawF_ok (by decide +kernel)) ?_ | refine n_same rfl ?_ | ((first | refine n_must ?_ ?_ | refine n_brT ?_ ?_); (focus (first | (simp [k1, k2, k3, k4, k5, k6]; done) | (simp [k1, k2, k3, k4, k5, k6]; omega) | (simp only [k1, k2, k3, k4, k5, k6]; simp; done)))) | (refine n_brF ?_ ?_; (focus (first | (simp [k1, k2, k3, k4, k5, k6]; done) | (simp [k1, k2, k3, k4, k5, k6]; omega) | (simp only [k1, k2, k3, k4, k5, k6]; simp; done)))) | refine n_must (by (with_reducible refine and_shape ?_) <;> kernel_rfl) ?_); (refine gs ?_)))
    refine n_ret0 rfl rfl fun ids' w' hp hI' => ⟨(P, B), rfl, ⟨hS', hB', .inl rfl⟩, ?_⟩
    exact post_shut (ids := [0, 0, z]) (mem := plM a b bk _ Q _) (ρ := plRes z a b bk P Q B) hI' rfl [0, 1, 2] (.res rfl (.res rfl (.res rfl .nil))) (by decide)
theorem played1_ok {z a b bk n N : Nat} {P Q : Pq} {B : Bk} {x : Oq} {w : World} (hP : P.ok n N) (hQ : Q.ok n N) (hB : B.ok N) (hN : N ≤ 300) (hx : x.good) (hR : (plRes z a b bk P Q B).R w) (hV : (readRes x.vo (vws x.V)).R w) (hap : ∀ k ∈ (plRes z a b bk P Q B).fp, k ∉ (readRes x.vo (vws x.V)).fp)
    (hdig : x.k = 3 → DigC b bk n N Q B) (hknw : x.k = 5 → KnwC b bk n N Q B x.nm) :
    Calls Try.prog 23 #[pV b, x.val, pV a] w fun e w' => ∃ y : Pq × Bk, e = .returned (.bool true) ∧ (y.1.ok n (N + 1) ∧ y.2.ok (N + 1) ∧ (y.2 = B ∨ x.k = 3 ∨ x.k = 5)) ∧ Post (plRes z a b bk P Q B) (plRes z a b bk P y.1 y.2) w w' := by
  have hI : Inv (cx 109 [(17, .of [(0, []), (1, []), (2, []), (3, []), (4, []), (5, []), (6, []), (7, [2]), (8, []), (9, [])])] (plRes z a b bk P Q B).fp w) w [0, 0, z] (plM a b bk P Q B) := memRes_open hR fun k hk => hk
  have hS : (Q).ok n N := by assumption
  have hO : (P).ok n N := by assumption
  have hVlt := rd_lt hV
  have hV1 : ∀ w1, Frm (plRes z a b bk P Q B).fp w w1 → (readRes x.vo (vws x.V)).R w1 := fun w1 hf => (readRes x.vo (vws x.V)).stable _ _ (fun k hk => hf.block k (hVlt k hk) (fun h => hap k h hk)) hV
  have hall := hS.all
  have hallO := hO.all
  have hB' := hB.mono (show N ≤ N + 1 by omega)
  have hS' := hS.mono (show N ≤ N + 1 by omega)
  obtain ⟨hxa, hxn, hxl⟩ := hx
  refine calls_sm (cx 109 [(17, .of [(0, []), (1, []), (2, []), (3, []), (4, []), (5, []), (6, []), (7, [2]), (8, []), (9, [])])] (plRes z a b bk P Q B).fp w) (vals := [.raw (pV b), .agg x.sv, .raw (pV a)]) mixed Try.func23 rfl rfl rfl hI rfl (st rfl ?_); conv => arg 3; whnf
  refine gw ?_
  by_cases k1 : x.k = 1
  · as_aux_lemma =>
    (repeat ((first | refine n_must rfl ?_ | refine n_chk (drawF_ok (by decide +kernel)) ?_ | refine n_same rfl ?_ | ((first | refine n_must ?_ ?_ | refine n_brT ?_ ?_); (focus (first | (simp [k1]; done) | (simp [k1]; omega) | (simp only [k1]; simp; done)))) | (refine n_brF ?_ ?_; (focus (first | (simp [k1]; done) | (simp [k1]; omega) | (simp only [k1]; simp; done)))) | refine n_must (by (with_reducible refine and_shape ?_) <;> kernel_rfl) ?_); (refine gs ?_)))
    (refine n_ldA (.raw (pV (Q).v)) rfl (by first | exact trivial | rfl) rfl (fun _ w1 _ hI1 => load_cell aggPv (pq_cell (hI1.res 1 rfl rfl) (j := 0) rfl rfl)) ?_; (refine gs ?_))
    refine gw ?_
    obtain ⟨ht1, _⟩ := told_ok hS (by omega) x.nm x.a x.b x.rd x.ru x.h (none, 0)
    refine n_callR (Y := Unit) 1 (fun _ => pqRes b bk ((Q).tell ⟨x.nm, x.a, x.b, 1, x.rd, x.ru, x.h⟩)) (fun _ => .int .i64 ((Q).r.tell ⟨x.nm, x.a, x.b, 1, x.rd, x.ru, x.h⟩).2) (fun _ => .int .i64 ((Q).r.tell ⟨x.nm, x.a, x.b, 1, x.rd, x.ru, x.h⟩).2) (fun _ => True) rfl rfl (fun _ => rfl) rfl rfl rfl (fun _ w1 _ hI1 hR1 => (tell_pq hS (by omega) hR1 x.nm x.a x.b x.rd x.ru x.h hxn).mono fun e w' ⟨he, hp⟩ => ⟨(), by rw [he, ht1], trivial, hp⟩) ?_
    intro _ _
    (refine gs ?_)
    refine gw ?_
    (refine n_ldA (.raw (pV (Q).q)) rfl (by first | exact trivial | rfl) rfl (fun _ w1 _ hI1 => load_cell aggPr (pq_cell (hI1.res 1 rfl rfl) (j := 1) rfl rfl)) ?_; (refine gs ?_))
    refine gw ?_
    refine n_callR (Y := Option Addr × Nat) 1 (fun y => pqRes b bk (((Q).tell ⟨x.nm, x.a, x.b, 1, x.rd, x.ru, x.h⟩).rtell ⟨x.nm, x.a, x.b, 1, x.rd, x.ru, x.h⟩ y)) (fun _ => .int .i64 ((Q).r.tell ⟨x.nm, x.a, x.b, 1, x.rd, x.ru, x.h⟩).2) (fun _ => .int .i64 ((Q).r.tell ⟨x.nm, x.a, x.b, 1, x.rd, x.ru, x.h⟩).2) (fun _ => True) rfl rfl (fun _ => rfl) rfl rfl rfl (fun _ w1 _ hI1 hR1 => rtell_pq (P := (Q).tell ⟨x.nm, x.a, x.b, 1, x.rd, x.ru, x.h⟩) (by show (Q).r.All.length ≤ _; omega) hR1 x.nm x.a x.b x.rd x.ru x.h) ?_
    intro y _
    (refine gs ?_)
    refine gw ?_
    obtain ⟨_, ht2⟩ := told_ok hS (by omega) x.nm x.a x.b x.rd x.ru x.h y
    refine n_ret0 rfl rfl fun ids' w' hp hI' => ⟨(((Q).tell ⟨x.nm, x.a, x.b, 1, x.rd, x.ru, x.h⟩).rtell ⟨x.nm, x.a, x.b, 1, x.rd, x.ru, x.h⟩ y, B), ret_bool (by simp), ⟨ht2, hB', .inl rfl⟩, ?_⟩
    exact post_shut (ids := [0, 0, z]) (mem := plM a b bk P _ _) (ρ := plRes z a b bk P Q B) hI' rfl [0, 1, 2] (.res rfl (.res rfl (.res rfl .nil))) (by decide)
  by_cases k2 : x.k = 2
  · as_aux_lemma =>
    (repeat ((first | refine n_must rfl ?_ | refine n_chk (drawF_ok (by decide +kernel)) ?_ | refine n_same rfl ?_ | ((first | refine n_must ?_ ?_ | refine n_brT ?_ ?_); (focus (first | (simp [k1, k2]; done) | (simp [k1, k2]; omega) | (simp only [k1, k2]; simp; done)))) | (refine n_brF ?_ ?_; (focus (first | (simp [k1, k2]; done) | (simp [k1, k2]; omega) | (simp only [k1, k2]; simp; done)))) | refine n_must (by (with_reducible refine and_shape ?_) <;> kernel_rfl) ?_); (refine gs ?_)))
    refine n_callR (Y := Pq) 1 (fun y => pqRes b bk y) (fun _ => .bool true) (fun _ => .bool true) (fun y => y.ok n (N + 1)) rfl rfl (fun _ => rfl) rfl rfl rfl (fun _ w1 _ hI1 hR1 => (takes_ok hS (by omega) hxa hR1 (hV1 _ hI1.frm) (fun k hk hk2 => by
      rcases hI1.own 1 _ rfl rfl k hk with h | h
      · exact hap k h hk2
      · have := hVlt k hk2
        have h : w.heap.size ≤ k := h
        omega) hxl).mono fun e w' ⟨y, he, hy, hp⟩ => ⟨y, he, hy.1, hp⟩) ?_
    intro y hy
    (refine gs ?_)
    refine gw ?_
    refine n_ret0 rfl rfl fun ids' w' hp hI' => ⟨(y, B), rfl, ⟨hy, hB', .inl rfl⟩, ?_⟩
    exact post_shut (ids := [0, 0, z]) (mem := plM a b bk P _ _) (ρ := plRes z a b bk P Q B) hI' rfl [0, 1, 2] (.res rfl (.res rfl (.res rfl .nil))) (by decide)
  by_cases k3 : x.k = 3
  · as_aux_lemma =>
    (repeat ((first | refine n_must rfl ?_ | refine n_chk (drawF_ok (by decide +kernel)) ?_ | refine n_same rfl ?_ | ((first | refine n_must ?_ ?_ | refine n_brT ?_ ?_); (focus (first | (simp [k1, k2, k3]; done) | (simp [k1, k2, k3]; omega) | (simp only [k1, k2, k3]; simp; done)))) | (refine n_brF ?_ ?_; (focus (first | (simp [k1, k2, k3]; done) | (simp [k1, k2, k3]; omega) | (simp only [k1, k2, k3]; simp; done)))) | refine n_must (by (with_reducible refine and_shape ?_) <;> kernel_rfl) ?_); (refine gs ?_)))
    refine n_call1 rfl fun b3 => ?_
    refine n_callX [] _ rfl (fun w1 hI1 => (by have h := hI1.absorb 1 2 (by decide) rfl rfl rfl rfl rfl rfl; rw [List.append_nil]; exact h)) ?_
    refine n_callR (Y := Pq × Bk) 1 (fun y => (pqRes b bk y.1).both (bkRes bk y.2)) (fun _ => .bool true) (fun _ => .bool true) (fun y => y.1.ok n (N + 1) ∧ y.2.ok (N + 1)) rfl rfl (fun _ => rfl) rfl rfl rfl (fun _ w1 _ hI1 hR1 => (hdig k3) w1 hR1) ?_
    rintro ⟨y, B2⟩ ⟨hy, hB2⟩
    dsimp only at hy hB2 ⊢
    (refine gs ?_)
    refine gw ?_
    refine n_ret0 rfl rfl fun ids' w' hp hI' => ⟨(y, B2), rfl, ⟨hy, hB2, .inr (.inl k3)⟩, ?_⟩
    have h2 := hI'.part2 1 rfl rfl 69
    exact post_shut (ids := [0, 0, z]) (mem := plM a b bk P _ _) (ρ := plRes z a b bk P Q B) h2 rfl [0, 1, 4] (.res rfl (.res rfl (.res rfl .nil))) (by decide)
  by_cases k4 : x.k = 4
  · as_aux_lemma =>
    (repeat ((first | refine n_must rfl ?_ | refine n_chk (drawF_ok (by decide +kernel)) ?_ | refine n_same rfl ?_ | ((first | refine n_must ?_ ?_ | refine n_brT ?_ ?_); (focus (first | (simp [k1, k2, k3, k4]; done) | (simp [k1, k2, k3, k4]; omega) | (simp only [k1, k2, k3, k4]; simp; done)))) | (refine n_brF ?_ ?_; (focus (first | (simp [k1, k2, k3, k4]; done) | (simp [k1, k2, k3, k4]; omega) | (simp only [k1, k2, k3, k4]; simp; done)))) | refine n_must (by (with_reducible refine and_shape ?_) <;> kernel_rfl) ?_); (refine gs ?_)))
    (refine n_ldA (.raw (pV (Q).v)) rfl (by first | exact trivial | rfl) rfl (fun _ w1 _ hI1 => load_cell aggPv (pq_cell (hI1.res 1 rfl rfl) (j := 0) rfl rfl)) ?_; (refine gs ?_))
    refine gw ?_
    refine n_sameP (.tup [.int .i64 (wr (rAboutD (Q).r.All x.nm n)), .bool (rAboutB (Q).r.All x.nm n)]) rfl rfl rfl (fun _ w1 hp1 hI1 => about_pq hS (hI1.res 1 rfl rfl) x.nm hxn) ?_; (refine gs ?_)
    refine gw ?_
    (refine n_ldA (.raw (pV (Q).q)) rfl (by first | exact trivial | rfl) rfl (fun _ w1 _ hI1 => load_cell aggPr (pq_cell (hI1.res 1 rfl rfl) (j := 1) rfl rfl)) ?_; (refine gs ?_))
    refine gw ?_
    refine n_sameP (.tup [.int .i64 (wr (rAboutD (Q).r.All x.nm n)), .bool (rAboutB (Q).r.All x.nm n)]) rfl rfl rfl (fun _ w1 hp1 hI1 => rabout_pq hS (by omega) (hI1.res 1 rfl rfl) x.nm) ?_; (refine gs ?_)
    refine gw ?_
    refine n_ret0 rfl rfl fun ids' w' hp hI' => ⟨(Q, B), ret_bool (by simp), ⟨hS', hB', .inl rfl⟩, ?_⟩
    exact post_shut (ids := [0, 0, z]) (mem := plM a b bk P _ _) (ρ := plRes z a b bk P Q B) hI' rfl [0, 1, 2] (.res rfl (.res rfl (.res rfl .nil))) (by decide)
  by_cases k5 : x.k = 5
  · as_aux_lemma =>
    (repeat ((first | refine n_must rfl ?_ | refine n_chk (drawF_ok (by decide +kernel)) ?_ | refine n_same rfl ?_ | ((first | refine n_must ?_ ?_ | refine n_brT ?_ ?_); (focus (first | (simp [k1, k2, k3, k4, k5]; done) | (simp [k1, k2, k3, k4, k5]; omega) | (simp only [k1, k2, k3, k4, k5]; simp; done)))) | (refine n_brF ?_ ?_; (focus (first | (simp [k1, k2, k3, k4, k5]; done) | (simp [k1, k2, k3, k4, k5]; omega) | (simp only [k1, k2, k3, k4, k5]; simp; done)))) | refine n_must (by (with_reducible refine and_shape ?_) <;> kernel_rfl) ?_); (refine gs ?_)))
    refine n_call1 rfl fun b3 => ?_
    refine n_callX [] _ rfl (fun w1 hI1 => (by have h := hI1.absorb 1 2 (by decide) rfl rfl rfl rfl rfl rfl; rw [List.append_nil]; exact h)) ?_
    refine n_callR (Y := Pq × Bk) 1 (fun y => (pqRes b bk y.1).both (bkRes bk y.2)) (fun _ => .bool true) (fun _ => .bool true) (fun y => y.1.ok n (N + 1) ∧ y.2.ok (N + 1)) rfl rfl (fun _ => rfl) rfl rfl rfl (fun _ w1 _ hI1 hR1 => (hknw k5) w1 hR1) ?_
    rintro ⟨y, B2⟩ ⟨hy, hB2⟩
    dsimp only at hy hB2 ⊢
    (refine gs ?_)
    refine gw ?_
    refine n_ret0 rfl rfl fun ids' w' hp hI' => ⟨(y, B2), rfl, ⟨hy, hB2, .inr (.inr k5)⟩, ?_⟩
    have h2 := hI'.part2 1 rfl rfl 69
    exact post_shut (ids := [0, 0, z]) (mem := plM a b bk P _ _) (ρ := plRes z a b bk P Q B) h2 rfl [0, 1, 4] (.res rfl (.res rfl (.res rfl .nil))) (by decide)
  by_cases k6 : x.k = 6
  · as_aux_lemma =>
    (repeat ((first | refine n_must rfl ?_ | refine n_chk (drawF_ok (by decide +kernel)) ?_ | refine n_same rfl ?_ | ((first | refine n_must ?_ ?_ | refine n_brT ?_ ?_); (focus (first | (simp [k1, k2, k3, k4, k5, k6]; done) | (simp [k1, k2, k3, k4, k5, k6]; omega) | (simp only [k1, k2, k3, k4, k5, k6]; simp; done)))) | (refine n_brF ?_ ?_; (focus (first | (simp [k1, k2, k3, k4, k5, k6]; done) | (simp [k1, k2, k3, k4, k5, k6]; omega) | (simp only [k1, k2, k3, k4, k5, k6]; simp; done)))) | refine n_must (by (with_reducible refine and_shape ?_) <;> kernel_rfl) ?_); (refine gs ?_)))
    (refine n_ldA (.raw (pV (P).q)) rfl (by first | exact trivial | rfl) rfl (fun _ w1 _ hI1 => load_cell aggPr (pq_cell (hI1.res 0 rfl rfl) (j := 1) rfl rfl)) ?_; (refine gs ?_))
    refine gw ?_
    refine n_call1 rfl fun b3 => ?_
    have hdl := rDig_len (P).r
    refine n_callN (fun y : Option Addr × Nat => vRow y.1 (rDigF (P).r).length y.2 (vws (rDigF (P).r))) 49 (fun y => .raw (.slice y.1 (rDigF (P).r).length y.2)) (fun y => .slice y.1 (rDigF (P).r).length y.2) (fun _ => True) rfl rfl rfl (fun _ => rfl) (fun w1 hI1 => rDigest_ok (memRes_res (hI1.res 0 rfl rfl) 2 rfl rfl) (by omega)) ?_
    rintro ⟨od, cd⟩ _ _
    dsimp only
    (refine gs ?_)
    refine gw ?_
    refine n_callR (Y := Pq) 1 (fun y => pqRes b bk y) (fun _ => .bool true) (fun _ => .bool true) (fun y => y.ok n (N + 1)) rfl rfl (fun _ => rfl) rfl rfl rfl (fun _ w1 _ hI1 hR1 => (takes_ok hS (by omega) hxa hR1 (rd_of_row (hI1.res 4 rfl rfl)) (fun k hk hk2 => hI1.res_res 1 4 (by decide) rfl rfl rfl rfl k hk (rd_inR hk2)) (by omega)).mono fun e w' ⟨y, he, hy, hp⟩ => ⟨y, he, hy.1, hp⟩) ?_
    intro y hy
    (refine gs ?_)
    refine gw ?_
    refine n_ret0 rfl rfl fun ids' w' hp hI' => ⟨(y, B), rfl, ⟨hy, hB', .inl rfl⟩, ?_⟩
    exact post_shut (ids := [0, 0, z]) (mem := plM a b bk P _ _) (ρ := plRes z a b bk P Q B) hI' rfl [0, 1, 2] (.res rfl (.res rfl (.res rfl .nil))) (by decide)
  · as_aux_lemma =>
    (repeat ((first | refine n_must rfl ?_ | refine n_chk (drawF_ok (by decide +kernel)) ?_ | refine n_same rfl ?_ | ((first | refine n_must ?_ ?_ | refine n_brT ?_ ?_); (focus (first | (simp [k1, k2, k3, k4, k5, k6]; done) | (simp [k1, k2, k3, k4, k5, k6]; omega) | (simp only [k1, k2, k3, k4, k5, k6]; simp; done)))) | (refine n_brF ?_ ?_; (focus (first | (simp [k1, k2, k3, k4, k5, k6]; done) | (simp [k1, k2, k3, k4, k5, k6]; omega) | (simp only [k1, k2, k3, k4, k5, k6]; simp; done)))) | refine n_must (by (with_reducible refine and_shape ?_) <;> kernel_rfl) ?_); (refine gs ?_)))
    refine n_ret0 rfl rfl fun ids' w' hp hI' => ⟨(Q, B), rfl, ⟨hS', hB', .inl rfl⟩, ?_⟩
    exact post_shut (ids := [0, 0, z]) (mem := plM a b bk P _ _) (ρ := plRes z a b bk P Q B) hI' rfl [0, 1, 2] (.res rfl (.res rfl (.res rfl .nil))) (by decide)
end
section
set_option maxRecDepth 100000
set_option linter.unusedSimpArgs false
set_option linter.unusedVariables false
set_option maxHeartbeats 8000000
open Go.RowKit

abbrev olM (a bk : Nat) (P : Pq) (B : Bk) : Mem := [⟨72, [.res (pqRes a bk P)], true⟩, ⟨69, [.res (bkRes bk B)], true⟩]
abbrev olRes (z a bk : Nat) (P : Pq) (B : Bk) : Res := memRes [0, z] (olM a bk P B)
theorem played2_ok {z a bk n N : Nat} {P : Pq} {B : Bk} {x : Oq} {w : World} (hS : P.ok n N) (hB : B.ok N) (hN : N ≤ 300) (hx : x.good) (hR : (olRes z a bk P B).R w) (hV : (readRes x.vo (vws x.V)).R w) (hap : ∀ k ∈ (olRes z a bk P B).fp, k ∉ (readRes x.vo (vws x.V)).fp)
    (hdig : x.k = 3 → DigC a bk n N P B) (hknw : x.k = 5 → KnwC a bk n N P B x.nm) :
    Calls Try.prog 23 #[pV a, x.val, Value.pointer none] w fun e w' => ∃ y : Pq × Bk, e = .returned (.bool true) ∧ (y.1.ok n (N + 1) ∧ y.2.ok (N + 1) ∧ (y.2 = B ∨ x.k = 3 ∨ x.k = 5)) ∧ Post (olRes z a bk P B) (olRes z a bk y.1 y.2) w w' := by
  have hI : Inv (cx 109 [(17, .of [(0, []), (1, []), (2, []), (3, []), (4, []), (5, []), (6, []), (7, [2]), (8, []), (9, [])])] (olRes z a bk P B).fp w) w [0, z] (olM a bk P B) := memRes_open hR fun k hk => hk
  have hVlt := rd_lt hV
  have hV1 : ∀ w1, Frm (olRes z a bk P B).fp w w1 → (readRes x.vo (vws x.V)).R w1 := fun w1 hf => (readRes x.vo (vws x.V)).stable _ _ (fun k hk => hf.block k (hVlt k hk) (fun h => hap k h hk)) hV
  have hall := hS.all
  have hB' := hB.mono (show N ≤ N + 1 by omega)
  have hS' := hS.mono (show N ≤ N + 1 by omega)
  obtain ⟨hxa, hxn, hxl⟩ := hx
  refine calls_sm (cx 109 [(17, .of [(0, []), (1, []), (2, []), (3, []), (4, []), (5, []), (6, []), (7, [2]), (8, []), (9, [])])] (olRes z a bk P B).fp w) (vals := [.raw (pV a), .agg x.sv, .nilp]) mixed Try.func23 rfl rfl rfl hI rfl (st rfl ?_); conv => arg 3; whnf
  refine gw ?_
  by_cases k1 : x.k = 1
  · as_aux_lemma =>
    (repeat ((first | refine n_must rfl ?_ | refine n_chk (drawF_ok (by decide +kernel)) ?_ | refine n_same rfl ?_ | ((first | refine n_must ?_ ?_ | refine n_brT ?_ ?_); (focus (first | (simp [k1]; done) | (simp [k1]; omega) | (simp only [k1]; simp; done)))) | (refine n_brF ?_ ?_; (focus (first | (simp [k1]; done) | (simp [k1]; omega) | (simp only [k1]; simp; done)))) | refine n_must (by (with_reducible refine and_shape ?_) <;> kernel_rfl) ?_); (refine gs ?_)))
    (refine n_ldA (.raw (pV (P).v)) rfl (by first | exact trivial | rfl) rfl (fun _ w1 _ hI1 => load_cell aggPv (pq_cell (hI1.res 0 rfl rfl) (j := 0) rfl rfl)) ?_; (refine gs ?_))
    refine gw ?_
    obtain ⟨ht1, _⟩ := told_ok hS (by omega) x.nm x.a x.b x.rd x.ru x.h (none, 0)
    refine n_callR (Y := Unit) 0 (fun _ => pqRes a bk ((P).tell ⟨x.nm, x.a, x.b, 1, x.rd, x.ru, x.h⟩)) (fun _ => .int .i64 ((P).r.tell ⟨x.nm, x.a, x.b, 1, x.rd, x.ru, x.h⟩).2) (fun _ => .int .i64 ((P).r.tell ⟨x.nm, x.a, x.b, 1, x.rd, x.ru, x.h⟩).2) (fun _ => True) rfl rfl (fun _ => rfl) rfl rfl rfl (fun _ w1 _ hI1 hR1 => (tell_pq hS (by omega) hR1 x.nm x.a x.b x.rd x.ru x.h hxn).mono fun e w' ⟨he, hp⟩ => ⟨(), by rw [he, ht1], trivial, hp⟩) ?_
    intro _ _
    (refine gs ?_)
    refine gw ?_
    (refine n_ldA (.raw (pV (P).q)) rfl (by first | exact trivial | rfl) rfl (fun _ w1 _ hI1 => load_cell aggPr (pq_cell (hI1.res 0 rfl rfl) (j := 1) rfl rfl)) ?_; (refine gs ?_))
    refine gw ?_
    refine n_callR (Y := Option Addr × Nat) 0 (fun y => pqRes a bk (((P).tell ⟨x.nm, x.a, x.b, 1, x.rd, x.ru, x.h⟩).rtell ⟨x.nm, x.a, x.b, 1, x.rd, x.ru, x.h⟩ y)) (fun _ => .int .i64 ((P).r.tell ⟨x.nm, x.a, x.b, 1, x.rd, x.ru, x.h⟩).2) (fun _ => .int .i64 ((P).r.tell ⟨x.nm, x.a, x.b, 1, x.rd, x.ru, x.h⟩).2) (fun _ => True) rfl rfl (fun _ => rfl) rfl rfl rfl (fun _ w1 _ hI1 hR1 => rtell_pq (P := (P).tell ⟨x.nm, x.a, x.b, 1, x.rd, x.ru, x.h⟩) (by show (P).r.All.length ≤ _; omega) hR1 x.nm x.a x.b x.rd x.ru x.h) ?_
    intro y _
    (refine gs ?_)
    refine gw ?_
    obtain ⟨_, ht2⟩ := told_ok hS (by omega) x.nm x.a x.b x.rd x.ru x.h y
    refine n_ret0 rfl rfl fun ids' w' hp hI' => ⟨(((P).tell ⟨x.nm, x.a, x.b, 1, x.rd, x.ru, x.h⟩).rtell ⟨x.nm, x.a, x.b, 1, x.rd, x.ru, x.h⟩ y, B), ret_bool (by simp), ⟨ht2, hB', .inl rfl⟩, ?_⟩
    exact post_shut (ids := [0, z]) (mem := olM a bk _ _) (ρ := olRes z a bk P B) hI' rfl [0, 1] (.res rfl (.res rfl .nil)) (by decide)
  by_cases k2 : x.k = 2
  · as_aux_lemma =>
    (repeat ((first | refine n_must rfl ?_ | refine n_chk (drawF_ok (by decide +kernel)) ?_ | refine n_same rfl ?_ | ((first | refine n_must ?_ ?_ | refine n_brT ?_ ?_); (focus (first | (simp [k1, k2]; done) | (simp [k1, k2]; omega) | (simp only [k1, k2]; simp; done)))) | (refine n_brF ?_ ?_; (focus (first | (simp [k1, k2]; done) | (simp [k1, k2]; omega) | (simp only [k1, k2]; simp; done)))) | refine n_must (by (with_reducible refine and_shape ?_) <;> kernel_rfl) ?_); (refine gs ?_)))
    refine n_callR (Y := Pq) 0 (fun y => pqRes a bk y) (fun _ => .bool true) (fun _ => .bool true) (fun y => y.ok n (N + 1)) rfl rfl (fun _ => rfl) rfl rfl rfl (fun _ w1 _ hI1 hR1 => (takes_ok hS (by omega) hxa hR1 (hV1 _ hI1.frm) (fun k hk hk2 => by
      rcases hI1.own 0 _ rfl rfl k hk with h | h
      · exact hap k h hk2
      · have := hVlt k hk2
        have h : w.heap.size ≤ k := h
        omega) hxl).mono fun e w' ⟨y, he, hy, hp⟩ => ⟨y, he, hy.1, hp⟩) ?_
    intro y hy
    (refine gs ?_)
    refine gw ?_
    refine n_ret0 rfl rfl fun ids' w' hp hI' => ⟨(y, B), rfl, ⟨hy, hB', .inl rfl⟩, ?_⟩
    exact post_shut (ids := [0, z]) (mem := olM a bk _ _) (ρ := olRes z a bk P B) hI' rfl [0, 1] (.res rfl (.res rfl .nil)) (by decide)
  by_cases k3 : x.k = 3
  · as_aux_lemma =>
    (repeat ((first | refine n_must rfl ?_ | refine n_chk (drawF_ok (by decide +kernel)) ?_ | refine n_same rfl ?_ | ((first | refine n_must ?_ ?_ | refine n_brT ?_ ?_); (focus (first | (simp [k1, k2, k3]; done) | (simp [k1, k2, k3]; omega) | (simp only [k1, k2, k3]; simp; done)))) | (refine n_brF ?_ ?_; (focus (first | (simp [k1, k2, k3]; done) | (simp [k1, k2, k3]; omega) | (simp only [k1, k2, k3]; simp; done)))) | refine n_must (by (with_reducible refine and_shape ?_) <;> kernel_rfl) ?_); (refine gs ?_)))
    refine n_call1 rfl fun b3 => ?_
    refine n_callX [] _ rfl (fun w1 hI1 => (by have h := hI1.absorb 0 1 (by decide) rfl rfl rfl rfl rfl rfl; rw [List.append_nil]; exact h)) ?_
    refine n_callR (Y := Pq × Bk) 0 (fun y => (pqRes a bk y.1).both (bkRes bk y.2)) (fun _ => .bool true) (fun _ => .bool true) (fun y => y.1.ok n (N + 1) ∧ y.2.ok (N + 1)) rfl rfl (fun _ => rfl) rfl rfl rfl (fun _ w1 _ hI1 hR1 => (hdig k3) w1 hR1) ?_
    rintro ⟨y, B2⟩ ⟨hy, hB2⟩
    dsimp only at hy hB2 ⊢
    (refine gs ?_)
    refine gw ?_
    refine n_ret0 rfl rfl fun ids' w' hp hI' => ⟨(y, B2), rfl, ⟨hy, hB2, .inr (.inl k3)⟩, ?_⟩
    have h2 := hI'.part2 0 rfl rfl 69
    exact post_shut (ids := [0, z]) (mem := olM a bk _ _) (ρ := olRes z a bk P B) h2 rfl [0, 3] (.res rfl (.res rfl .nil)) (by decide)
  by_cases k4 : x.k = 4
  · as_aux_lemma =>
    (repeat ((first | refine n_must rfl ?_ | refine n_chk (drawF_ok (by decide +kernel)) ?_ | refine n_same rfl ?_ | ((first | refine n_must ?_ ?_ | refine n_brT ?_ ?_); (focus (first | (simp [k1, k2, k3, k4]; done) | (simp [k1, k2, k3, k4]; omega) | (simp only [k1, k2, k3, k4]; simp; done)))) | (refine n_brF ?_ ?_; (focus (first | (simp [k1, k2, k3, k4]; done) | (simp [k1, k2, k3, k4]; omega) | (simp only [k1, k2, k3, k4]; simp; done)))) | refine n_must (by (with_reducible refine and_shape ?_) <;> kernel_rfl) ?_); (refine gs ?_)))
    (refine n_ldA (.raw (pV (P).v)) rfl (by first | exact trivial | rfl) rfl (fun _ w1 _ hI1 => load_cell aggPv (pq_cell (hI1.res 0 rfl rfl) (j := 0) rfl rfl)) ?_; (refine gs ?_))
    refine gw ?_
    refine n_sameP (.tup [.int .i64 (wr (rAboutD (P).r.All x.nm n)), .bool (rAboutB (P).r.All x.nm n)]) rfl rfl rfl (fun _ w1 hp1 hI1 => about_pq hS (hI1.res 0 rfl rfl) x.nm hxn) ?_; (refine gs ?_)
    refine gw ?_
    (refine n_ldA (.raw (pV (P).q)) rfl (by first | exact trivial | rfl) rfl (fun _ w1 _ hI1 => load_cell aggPr (pq_cell (hI1.res 0 rfl rfl) (j := 1) rfl rfl)) ?_; (refine gs ?_))
    refine gw ?_
    refine n_sameP (.tup [.int .i64 (wr (rAboutD (P).r.All x.nm n)), .bool (rAboutB (P).r.All x.nm n)]) rfl rfl rfl (fun _ w1 hp1 hI1 => rabout_pq hS (by omega) (hI1.res 0 rfl rfl) x.nm) ?_; (refine gs ?_)
    refine gw ?_
    refine n_ret0 rfl rfl fun ids' w' hp hI' => ⟨(P, B), ret_bool (by simp), ⟨hS', hB', .inl rfl⟩, ?_⟩
    exact post_shut (ids := [0, z]) (mem := olM a bk _ _) (ρ := olRes z a bk P B) hI' rfl [0, 1] (.res rfl (.res rfl .nil)) (by decide)
  by_cases k5 : x.k = 5
  · as_aux_lemma =>
    (repeat ((first | refine n_must rfl ?_ | refine n_chk (drawF_ok (by decide +kernel)) ?_ | refine n_same rfl ?_ | ((first | refine n_must ?_ ?_ | refine n_brT ?_ ?_); (focus (first | (simp [k1, k2, k3, k4, k5]; done) | (simp [k1, k2, k3, k4, k5]; omega) | (simp only [k1, k2, k3, k4, k5]; simp; done)))) | (refine n_brF ?_ ?_; (focus (first | (simp [k1, k2, k3, k4, k5]; done) | (simp [k1, k2, k3, k4, k5]; omega) | (simp only [k1, k2, k3, k4, k5]; simp; done)))) | refine n_must (by (with_reducible refine and_shape ?_) <;> kernel_rfl) ?_); (refine gs ?_)))
    refine n_call1 rfl fun b3 => ?_
    refine n_callX [] _ rfl (fun w1 hI1 => (by have h := hI1.absorb 0 1 (by decide) rfl rfl rfl rfl rfl rfl; rw [List.append_nil]; exact h)) ?_
    refine n_callR (Y := Pq × Bk) 0 (fun y => (pqRes a bk y.1).both (bkRes bk y.2)) (fun _ => .bool true) (fun _ => .bool true) (fun y => y.1.ok n (N + 1) ∧ y.2.ok (N + 1)) rfl rfl (fun _ => rfl) rfl rfl rfl (fun _ w1 _ hI1 hR1 => (hknw k5) w1 hR1) ?_
    rintro ⟨y, B2⟩ ⟨hy, hB2⟩
    dsimp only at hy hB2 ⊢
    (refine gs ?_)
    refine gw ?_
    refine n_ret0 rfl rfl fun ids' w' hp hI' => ⟨(y, B2), rfl, ⟨hy, hB2, .inr (.inr k5)⟩, ?_⟩
    have h2 := hI'.part2 0 rfl rfl 69
    exact post_shut (ids := [0, z]) (mem := olM a bk _ _) (ρ := olRes z a bk P B) h2 rfl [0, 3] (.res rfl (.res rfl .nil)) (by decide)
  by_cases k6 : x.k = 6
  · as_aux_lemma =>
    (repeat ((first | refine n_must rfl ?_ | refine n_chk (drawF_ok (by decide +kernel)) ?_ | refine n_same rfl ?_ | ((first | refine n_must ?_ ?_ | refine n_brT ?_ ?_); (focus (first | (simp [k1, k2, k3, k4, k5, k6]; done) | (simp [k1, k2, k3, k4, k5, k6]; omega) | (simp only [k1, k2, k3, k4, k5, k6]; simp; done)))) | (refine n_brF ?_ ?_; (focus (first | (simp [k1, k2, k3, k4, k5, k6]; done) | (simp [k1, k2, k3, k4, k5, k6]; omega) | (simp only [k1, k2, k3, k4, k5, k6]; simp; done)))) | refine n_must (by (with_reducible refine and_shape ?_) <;> kernel_rfl) ?_); (refine gs ?_)))
    refine n_ret0 rfl rfl fun ids' w' hp hI' => ⟨(P, B), rfl, ⟨hS', hB', .inl rfl⟩, ?_⟩
    exact post_shut (ids := [0, z]) (mem := olM a bk _ _) (ρ := olRes z a bk P B) hI' rfl [0, 1] (.res rfl (.res rfl .nil)) (by decide)
  · as_aux_lemma =>
    (repeat ((first | refine n_must rfl ?_ | refine n_chk (drawF_ok (by decide +kernel)) ?_ | refine n_same rfl ?_ | ((first | refine n_must ?_ ?_ | refine n_brT ?_ ?_); (focus (first | (simp [k1, k2, k3, k4, k5, k6]; done) | (simp [k1, k2, k3, k4, k5, k6]; omega) | (simp only [k1, k2, k3, k4, k5, k6]; simp; done)))) | (refine n_brF ?_ ?_; (focus (first | (simp [k1, k2, k3, k4, k5, k6]; done) | (simp [k1, k2, k3, k4, k5, k6]; omega) | (simp only [k1, k2, k3, k4, k5, k6]; simp; done)))) | refine n_must (by (with_reducible refine and_shape ?_) <;> kernel_rfl) ?_); (refine gs ?_)))
    refine n_ret0 rfl rfl fun ids' w' hp hI' => ⟨(P, B), rfl, ⟨hS', hB', .inl rfl⟩, ?_⟩
    exact post_shut (ids := [0, z]) (mem := olM a bk _ _) (ρ := olRes z a bk P B) hI' rfl [0, 1] (.res rfl (.res rfl .nil)) (by decide)
end
end Go.Proofs.Ytcpecnpnnodfhaa
