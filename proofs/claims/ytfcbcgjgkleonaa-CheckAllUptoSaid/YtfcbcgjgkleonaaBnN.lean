/- Chapter 17's law: many, order. Chapter 17's law: searches, CheckSearches. -/
import Derived.Test.YtfcbcgjgkleonaaBnM
import Derived.Test.YtfcbcgjgkleonaaCkW
namespace Go.Proofs.Ytfcbcgjgkleonaa
section
set_option maxRecDepth 100000
set_option linter.unusedSimpArgs false
set_option linter.unusedVariables false
set_option maxHeartbeats 16000000
open Go.RowKit

def manyF (L : List Pa) : Nat := L.countP standB
theorem many_next {L : List Pa} {i : Nat} {p : Pa} (h : L[i]? = some p) : manyF (L.take (i + 1)) = manyF (L.take i) + (if standB p then 1 else 0) := by
  unfold manyF
  rw [take_next h, List.countP_append]
  simp [List.countP_cons]
theorem many_le (L : List Pa) : manyF L ≤ L.length := List.countP_le_length
theorem many_ok {o : Option Addr} {L : List Pa} {w : World} (cap : Nat) (hR : (paRes o L).R w) (hlt : ∀ x ∈ (paRes o L).fp, x < w.heap.size) (hl : L.length ≤ 9223372036854775806) :
    Calls Try.prog 27 #[.slice o L.length cap] w fun e w' => e = .returned (.int .i64 (manyF L)) ∧ Frm [] w w' := by
  have hI : Inv (cx 42 [] [] w) w [0] [⟨55, [.res (paRes o L)], false⟩] := (Inv.nil w).consR (by simp) hR hlt (by simp)
  refine calls_sm (cx 42 [] [] w) (vals := [.raw (.slice o L.length cap)]) mixed Try.func27 rfl rfl rfl hI rfl (st rfl ?_); conv => arg 3; whnf
  refine gg ?_
  refine n_loop (σ := Nat) (fun i => [(0, .raw (.slice o L.length cap)), (3, .int .i64 (manyF (L.take i) : Nat)), (4, .int .i64 (i : Nat))]) (fun _ => [⟨55, [.res (paRes o L)], false⟩]) (fun i => i ≤ L.length) (fun i => L.length - i) 0 mixed (by omega) (fun _ _ => rfl) rfl (by (repeat (first | exact trivial | refine ⟨⟨rfl, rfl⟩, ?_⟩))) (fun s _ => ⟨by (repeat (first | exact trivial | refine ⟨⟨_, rfl⟩, ?_⟩)), by (repeat (first | exact trivial | refine ⟨⟨_, rfl⟩, ?_⟩))⟩) fun i hi => ?_
  (refine gs ?_)
  by_cases hlt2 : i < L.length
  · have ei : IntKind.i64.wrap ((i : Int) + 1) = ((i + 1 : Nat) : Int) := by rw [w64 (by omega) (by omega)]; simp
    obtain ⟨ad, rfl⟩ := rd_some pa_len (by omega) hR (by omega)
    have hx : L[i]? = some L[i] := List.getElem?_eq_getElem _
    generalize L[i] = p at hx
    have hnx := many_next hx
    have hml : manyF (L.take i) ≤ i := by have := many_le (L.take i); rw [List.length_take] at this; omega
    generalize manyF (L.take i) = M at hnx hml
    have eM : IntKind.i64.wrap ((M : Int) + 1) = ((M + 1 : Nat) : Int) := by rw [w64 (by omega) (by omega)]; simp
    refine gw ?_
    (first | (refine n_ldI (.agg p.sv) rfl rfl (fun _ w1 _ hI1 => pa_row (hI1.res 0 rfl rfl) hx rfl) ?_; (refine gs ?_)) | (refine n_ldDI (.agg p.sv) rfl rfl (fun _ w1 _ hI1 => pa_row (hI1.res 0 rfl rfl) hx rfl) ?_; (refine gs ?_)) | (refine n_ldRI (.agg p.sv) rfl (fun _ w1 _ hI1 => pa_row (hI1.res 0 rfl rfl) hx rfl) ?_; (refine gs ?_)))
    refine gw ?_
    refine n_sameP (.int .i64 (sortF p)) rfl rfl rfl (fun _ w1 hp1 hI1 => rSort_ok p w1) ?_; (refine gs ?_)
    by_cases s2 : sortF p = 2
    · have e : standB p = true := by simp [standB, s2]
      rw [e, if_pos rfl] at hnx
      (repeat ((first | refine n_must rfl ?_ | refine n_chk (drawF_ok (by decide +kernel)) ?_ | refine n_same rfl ?_ | ((first | refine n_must ?_ ?_ | refine n_brT ?_ ?_); (focus (first | (simp [s2]; done) | (simp [s2]; omega) | (simp only [s2]; simp; done)))) | (refine n_brF ?_ ?_; (focus (first | (simp [s2]; done) | (simp [s2]; omega) | (simp only [s2]; simp; done)))) | refine n_must (by (with_reducible refine and_shape ?_) <;> kernel_rfl) ?_); (refine gs ?_)))
      refine n_again ⟨i + 1, by omega, by omega, by rw [hnx]; exact (by (repeat (first | exact trivial | refine ⟨⟨rfl, rfl⟩, ?_⟩ | refine ⟨⟨rfl, congrArg (SV.int .i64) ei⟩, ?_⟩ | refine ⟨⟨rfl, congrArg (SV.int .i64) eM⟩, ?_⟩))), ⟨_, rfl⟩⟩
    by_cases s1 : sortF p = 1
    · by_cases ht : p.to = -1
      · have e : standB p = true := by simp [standB, s1, openF, ht]
        rw [e, if_pos rfl] at hnx
        (repeat ((first | refine n_must rfl ?_ | refine n_chk (drawF_ok (by decide +kernel)) ?_ | refine n_same rfl ?_ | ((first | refine n_must ?_ ?_ | refine n_brT ?_ ?_); (focus (first | (simp [s1, ht]; done) | (simp [s1, ht]; omega) | (simp only [s1, ht]; simp; done)))) | (refine n_brF ?_ ?_; (focus (first | (simp [s1, ht]; done) | (simp [s1, ht]; omega) | (simp only [s1, ht]; simp; done)))) | refine n_must (by (with_reducible refine and_shape ?_) <;> kernel_rfl) ?_); (refine gs ?_)))
        (repeat ((first | (first | (refine n_ldI (.int .i64 p.to) rfl rfl (fun _ w1 _ hI1 => load_cell aggInt (pa_cell (hI1.res 0 rfl rfl) hx 7 rfl (addT ad i 10 7))) ?_; (refine gs ?_)) | (refine n_ldDI (.int .i64 p.to) rfl rfl (fun _ w1 _ hI1 => load_cell aggInt (pa_cell (hI1.res 0 rfl rfl) hx 7 rfl (addT ad i 10 7))) ?_; (refine gs ?_)) | (refine n_ldRI (.int .i64 p.to) rfl (fun _ w1 _ hI1 => load_cell aggInt (pa_cell (hI1.res 0 rfl rfl) hx 7 rfl (addT ad i 10 7))) ?_; (refine gs ?_))) | (first | (refine n_ldI (.int .i64 p.er) rfl rfl (fun _ w1 _ hI1 => load_cell aggErr (pa_cell (hI1.res 0 rfl rfl) hx 8 rfl (addT ad i 10 8))) ?_; (refine gs ?_)) | (refine n_ldDI (.int .i64 p.er) rfl rfl (fun _ w1 _ hI1 => load_cell aggErr (pa_cell (hI1.res 0 rfl rfl) hx 8 rfl (addT ad i 10 8))) ?_; (refine gs ?_)) | (refine n_ldRI (.int .i64 p.er) rfl (fun _ w1 _ hI1 => load_cell aggErr (pa_cell (hI1.res 0 rfl rfl) hx 8 rfl (addT ad i 10 8))) ?_; (refine gs ?_)))); (repeat ((first | refine n_must rfl ?_ | refine n_chk (drawF_ok (by decide +kernel)) ?_ | refine n_same rfl ?_ | ((first | refine n_must ?_ ?_ | refine n_brT ?_ ?_); (focus (first | (simp [s1, ht]; done) | (simp [s1, ht]; omega) | (simp only [s1, ht]; simp; done)))) | (refine n_brF ?_ ?_; (focus (first | (simp [s1, ht]; done) | (simp [s1, ht]; omega) | (simp only [s1, ht]; simp; done)))) | refine n_must (by (with_reducible refine and_shape ?_) <;> kernel_rfl) ?_); (refine gs ?_)))))
        refine n_again ⟨i + 1, by omega, by omega, by rw [hnx]; exact (by (repeat (first | exact trivial | refine ⟨⟨rfl, rfl⟩, ?_⟩ | refine ⟨⟨rfl, congrArg (SV.int .i64) ei⟩, ?_⟩ | refine ⟨⟨rfl, congrArg (SV.int .i64) eM⟩, ?_⟩))), ⟨_, rfl⟩⟩
      by_cases he : p.er = 111
      · have e : standB p = true := by simp [standB, s1, openF, he]
        rw [e, if_pos rfl] at hnx
        (repeat ((first | refine n_must rfl ?_ | refine n_chk (drawF_ok (by decide +kernel)) ?_ | refine n_same rfl ?_ | ((first | refine n_must ?_ ?_ | refine n_brT ?_ ?_); (focus (first | (simp [s1, ht, he]; done) | (simp [s1, ht, he]; omega) | (simp only [s1, ht, he]; simp; done)))) | (refine n_brF ?_ ?_; (focus (first | (simp [s1, ht, he]; done) | (simp [s1, ht, he]; omega) | (simp only [s1, ht, he]; simp; done)))) | refine n_must (by (with_reducible refine and_shape ?_) <;> kernel_rfl) ?_); (refine gs ?_)))
        (repeat ((first | (first | (refine n_ldI (.int .i64 p.to) rfl rfl (fun _ w1 _ hI1 => load_cell aggInt (pa_cell (hI1.res 0 rfl rfl) hx 7 rfl (addT ad i 10 7))) ?_; (refine gs ?_)) | (refine n_ldDI (.int .i64 p.to) rfl rfl (fun _ w1 _ hI1 => load_cell aggInt (pa_cell (hI1.res 0 rfl rfl) hx 7 rfl (addT ad i 10 7))) ?_; (refine gs ?_)) | (refine n_ldRI (.int .i64 p.to) rfl (fun _ w1 _ hI1 => load_cell aggInt (pa_cell (hI1.res 0 rfl rfl) hx 7 rfl (addT ad i 10 7))) ?_; (refine gs ?_))) | (first | (refine n_ldI (.int .i64 p.er) rfl rfl (fun _ w1 _ hI1 => load_cell aggErr (pa_cell (hI1.res 0 rfl rfl) hx 8 rfl (addT ad i 10 8))) ?_; (refine gs ?_)) | (refine n_ldDI (.int .i64 p.er) rfl rfl (fun _ w1 _ hI1 => load_cell aggErr (pa_cell (hI1.res 0 rfl rfl) hx 8 rfl (addT ad i 10 8))) ?_; (refine gs ?_)) | (refine n_ldRI (.int .i64 p.er) rfl (fun _ w1 _ hI1 => load_cell aggErr (pa_cell (hI1.res 0 rfl rfl) hx 8 rfl (addT ad i 10 8))) ?_; (refine gs ?_)))); (repeat ((first | refine n_must rfl ?_ | refine n_chk (drawF_ok (by decide +kernel)) ?_ | refine n_same rfl ?_ | ((first | refine n_must ?_ ?_ | refine n_brT ?_ ?_); (focus (first | (simp [s1, ht, he]; done) | (simp [s1, ht, he]; omega) | (simp only [s1, ht, he]; simp; done)))) | (refine n_brF ?_ ?_; (focus (first | (simp [s1, ht, he]; done) | (simp [s1, ht, he]; omega) | (simp only [s1, ht, he]; simp; done)))) | refine n_must (by (with_reducible refine and_shape ?_) <;> kernel_rfl) ?_); (refine gs ?_)))))
        refine n_again ⟨i + 1, by omega, by omega, by rw [hnx]; exact (by (repeat (first | exact trivial | refine ⟨⟨rfl, rfl⟩, ?_⟩ | refine ⟨⟨rfl, congrArg (SV.int .i64) ei⟩, ?_⟩ | refine ⟨⟨rfl, congrArg (SV.int .i64) eM⟩, ?_⟩))), ⟨_, rfl⟩⟩
      · have e : standB p = false := by simp [standB, s1, openF, he, ht]
        rw [e, if_neg (by simp), Nat.add_zero] at hnx
        (repeat ((first | refine n_must rfl ?_ | refine n_chk (drawF_ok (by decide +kernel)) ?_ | refine n_same rfl ?_ | ((first | refine n_must ?_ ?_ | refine n_brT ?_ ?_); (focus (first | (simp [s1, ht, he]; done) | (simp [s1, ht, he]; omega) | (simp only [s1, ht, he]; simp; done)))) | (refine n_brF ?_ ?_; (focus (first | (simp [s1, ht, he]; done) | (simp [s1, ht, he]; omega) | (simp only [s1, ht, he]; simp; done)))) | refine n_must (by (with_reducible refine and_shape ?_) <;> kernel_rfl) ?_); (refine gs ?_)))
        (repeat ((first | (first | (refine n_ldI (.int .i64 p.to) rfl rfl (fun _ w1 _ hI1 => load_cell aggInt (pa_cell (hI1.res 0 rfl rfl) hx 7 rfl (addT ad i 10 7))) ?_; (refine gs ?_)) | (refine n_ldDI (.int .i64 p.to) rfl rfl (fun _ w1 _ hI1 => load_cell aggInt (pa_cell (hI1.res 0 rfl rfl) hx 7 rfl (addT ad i 10 7))) ?_; (refine gs ?_)) | (refine n_ldRI (.int .i64 p.to) rfl (fun _ w1 _ hI1 => load_cell aggInt (pa_cell (hI1.res 0 rfl rfl) hx 7 rfl (addT ad i 10 7))) ?_; (refine gs ?_))) | (first | (refine n_ldI (.int .i64 p.er) rfl rfl (fun _ w1 _ hI1 => load_cell aggErr (pa_cell (hI1.res 0 rfl rfl) hx 8 rfl (addT ad i 10 8))) ?_; (refine gs ?_)) | (refine n_ldDI (.int .i64 p.er) rfl rfl (fun _ w1 _ hI1 => load_cell aggErr (pa_cell (hI1.res 0 rfl rfl) hx 8 rfl (addT ad i 10 8))) ?_; (refine gs ?_)) | (refine n_ldRI (.int .i64 p.er) rfl (fun _ w1 _ hI1 => load_cell aggErr (pa_cell (hI1.res 0 rfl rfl) hx 8 rfl (addT ad i 10 8))) ?_; (refine gs ?_)))); (repeat ((first | refine n_must rfl ?_ | refine n_chk (drawF_ok (by decide +kernel)) ?_ | refine n_same rfl ?_ | ((first | refine n_must ?_ ?_ | refine n_brT ?_ ?_); (focus (first | (simp [s1, ht, he]; done) | (simp [s1, ht, he]; omega) | (simp only [s1, ht, he]; simp; done)))) | (refine n_brF ?_ ?_; (focus (first | (simp [s1, ht, he]; done) | (simp [s1, ht, he]; omega) | (simp only [s1, ht, he]; simp; done)))) | refine n_must (by (with_reducible refine and_shape ?_) <;> kernel_rfl) ?_); (refine gs ?_)))))
        refine n_again ⟨i + 1, by omega, by omega, by rw [hnx]; exact (by (repeat (first | exact trivial | refine ⟨⟨rfl, rfl⟩, ?_⟩ | refine ⟨⟨rfl, congrArg (SV.int .i64) ei⟩, ?_⟩))), ⟨_, rfl⟩⟩
    · have e : standB p = false := by simp [standB, s1, s2]
      rw [e, if_neg (by simp), Nat.add_zero] at hnx
      (repeat ((first | refine n_must rfl ?_ | refine n_chk (drawF_ok (by decide +kernel)) ?_ | refine n_same rfl ?_ | ((first | refine n_must ?_ ?_ | refine n_brT ?_ ?_); (focus (first | (simp [s1, s2]; done) | (simp [s1, s2]; omega) | (simp only [s1, s2]; simp; done)))) | (refine n_brF ?_ ?_; (focus (first | (simp [s1, s2]; done) | (simp [s1, s2]; omega) | (simp only [s1, s2]; simp; done)))) | refine n_must (by (with_reducible refine and_shape ?_) <;> kernel_rfl) ?_); (refine gs ?_)))
      refine n_again ⟨i + 1, by omega, by omega, by rw [hnx]; exact (by (repeat (first | exact trivial | refine ⟨⟨rfl, rfl⟩, ?_⟩ | refine ⟨⟨rfl, congrArg (SV.int .i64) ei⟩, ?_⟩))), ⟨_, rfl⟩⟩
  · obtain rfl : i = L.length := by omega
    rw [List.take_length]
    refine gw ?_
    refine n_exit rfl ?_
    (refine gs ?_)
    refine gw ?_
    exact n_ret0 rfl rfl fun ids' w' hp hI' => ⟨rfl, hI'.frm⟩
theorem order_ok {S : Srch} {o : Option Addr} {ol : Option Addr} {l : List Int} {w : World} (cap capl : Nat) (hN : S.n ≤ 12) (hR : (paRes o S.L).R w) (hlt : ∀ x ∈ (paRes o S.L).fp, x < w.heap.size) (hl : (readRes ol (ints l)).R w) (hllt : ∀ x ∈ (readRes ol (ints l)).fp, x < w.heap.size) (hll : l.length ≤ 100) :
    Calls Try.prog 19 #[.slice o S.n cap, .slice ol l.length capl] w fun e w' => e = .returned (.bool (ordG S (numR S.L) l 0 [])) ∧ Frm [] w w' := by
  obtain ⟨itb, hitb, hpb⟩ := Option.map_eq_some_iff.1 infoBool
  simp only [Prod.mk.injEq] at hpb
  have hI : Inv (cx 158 [(22, .of [(0, []), (1, []), (2, []), (3, []), (4, []), (5, [2]), (6, []), (7, []), (8, []), (9, []), (10, []), (11, [])])] [] w) w [0] [⟨55, [.res (paRes o S.L)], false⟩] := (Inv.nil w).consR (by simp) hR hlt (by simp)
  have hl1 : ∀ w1, Frm [] w w1 → (readRes ol (ints l)).R w1 := fun w1 hf => (readRes ol (ints l)).stable _ _ (fun k hk => hf.block k (hllt k hk) (by simp)) hl
  refine calls_sm (cx 158 [(22, .of [(0, []), (1, []), (2, []), (3, []), (4, []), (5, [2]), (6, []), (7, []), (8, []), (9, []), (10, []), (11, [])])] [] w) (vals := [.raw (.slice o S.n cap), .raw (.slice ol l.length capl)]) mixed Try.func19 rfl rfl rfl hI rfl (st rfl ?_); conv => arg 3; whnf
  refine gg ?_
  refine n_callN (fun y : Nat => rmaRes y (none, 0) [] G0) 111 (fun y => .raw (pV y)) (fun y => pV y) (fun _ => True) rfl rfl rfl (fun _ => rfl) (fun w1 hI1 => rmNewA_ok w1) ?_
  intro q0 _ hnew
  (refine gs ?_)
  refine gw ?_
  refine n_makeSlice (n := S.n) 4 rfl rfl rfl Try.underlying95 hitb hpb.1 (by rw [hpb.2.1]; rfl) hpb.2.2 rfl rfl (by omega) (by omega) fun g hg => ?_
  rw [in_zero]
  (refine gs ?_)
  refine gw ?_
  generalize hB : ordG S (numR S.L) l 0 [] = B
  refine n_loop (σ := Nat × Nat × (Option Addr × Nat) × List Rc × List Rw) (fun t => [(0, .raw (.slice o S.n cap)), (1, .raw (.slice ol l.length capl)), (5, .raw (pV q0)), (6, .raw (.slice (some ⟨g, 0, none⟩) S.n S.n)), (7, .int .i64 (t.1 : Nat))]) (fun t => [⟨55, [.res (paRes o S.L)], false⟩, ⟨111, [.res (rmaRes q0 t.2.2.1 t.2.2.2.1 t.2.2.2.2)], true⟩, ⟨4, [.res (inR g S.n t.2.1)], true⟩]) (fun t => t.1 ≤ l.length ∧ ordG S (numR S.L) (l.drop t.1) t.2.1 (ks t.2.2.2.1) = B ∧ AllIn t.2.2.2.2 t.2.2.2.1 ∧ NilG t.2.2.2.2 ∧ FitN t.1 (ks t.2.2.2.1)) (fun t => l.length - t.1) (0, 0, (none, 0), [], G0) mixed ⟨by simp, hB, fun c hc => by simp at hc, G0_nil, FitN.nil 0⟩ (fun _ _ => rfl) rfl (by (repeat (first | exact trivial | refine ⟨⟨rfl, rfl⟩, ?_⟩))) (fun s _ => ⟨by (repeat (first | exact trivial | refine ⟨⟨_, rfl⟩, ?_⟩)), by (repeat (first | exact trivial | refine ⟨⟨_, rfl⟩, ?_⟩))⟩) fun t ht => ?_
  obtain ⟨j, sd, y, A, G⟩ := t
  obtain ⟨hj, hO, hin, hng, hfit⟩ := ht
  dsimp only at hj hO hin hng hfit ⊢
  (refine gs ?_)
  by_cases hjl : j < l.length
  · have ej : IntKind.i64.wrap ((j : Int) + 1) = ((j + 1 : Nat) : Int) := by rw [w64 (by omega) (by omega)]; simp
    have hx : l[j]? = some l[j] := List.getElem?_eq_getElem _
    have hd : l.drop j = l[j] :: l.drop (j + 1) := List.drop_eq_getElem_cons hjl
    have hlen : (l.drop (j + 1)).length = l.length - (j + 1) := List.length_drop
    obtain ⟨al, rfl⟩ : ∃ a, ol = some a := by obtain ⟨a, ha, _⟩ := hl j _ (by rw [List.getElem?_map, hx]; rfl); exact ⟨a, ha⟩
    rw [hd, ordG] at hO
    generalize l[j] = x at hx hO
    generalize l.drop (j + 1) = r at hO hlen hd
    refine gw ?_
    have hcell : ∀ {w1 : World}, Frm [] w w1 → ∀ ad, ad = al.add (j * 1) → w1.cell? ad = some (.int .i64 x) := fun hf ad had => by
      obtain ⟨a', e, hc⟩ := hl1 _ hf j (.int .i64 x) (by simp [hx])
      simp at e; subst e
      rw [had, Nat.mul_one]; exact hc
    (first | (refine n_ldI (.int .i64 x) rfl rfl (fun _ w1 _ hI1 => load_cell aggInt (hcell hI1.frm _ rfl)) ?_; (refine gs ?_)) | (refine n_ldDI (.int .i64 x) rfl rfl (fun _ w1 _ hI1 => load_cell aggInt (hcell hI1.frm _ rfl)) ?_; (refine gs ?_)) | (refine n_ldRI (.int .i64 x) rfl (fun _ w1 _ hI1 => load_cell aggInt (hcell hI1.frm _ rfl)) ?_; (refine gs ?_)))
    refine gw ?_
    by_cases h0 : x < 0
    · (repeat ((first | refine n_must rfl ?_ | refine n_chk (drawF_ok (by decide +kernel)) ?_ | refine n_same rfl ?_ | ((first | refine n_must ?_ ?_ | refine n_brT ?_ ?_); (focus (first | (simp [h0]; done) | (simp [h0]; omega) | (simp only [h0]; simp; done)))) | (refine n_brF ?_ ?_; (focus (first | (simp [h0]; done) | (simp [h0]; omega) | (simp only [h0]; simp; done)))) | refine n_must (by (with_reducible refine and_shape ?_) <;> kernel_rfl) ?_); (refine gs ?_)))
      refine n_leave ?_
      rw [if_pos (.inl h0)] at hO
      rw [← hO]
      exact n_ret0 rfl rfl fun ids' w' hp hI' => ⟨rfl, hI'.frm⟩
    by_cases hn : (S.n : Int) ≤ x
    · (repeat ((first | refine n_must rfl ?_ | refine n_chk (drawF_ok (by decide +kernel)) ?_ | refine n_same rfl ?_ | ((first | refine n_must ?_ ?_ | refine n_brT ?_ ?_); (focus (first | (simp [h0, hn]; done) | (simp [h0, hn]; omega) | (simp only [h0, hn]; simp; done)))) | (refine n_brF ?_ ?_; (focus (first | (simp [h0, hn]; done) | (simp [h0, hn]; omega) | (simp only [h0, hn]; simp; done)))) | refine n_must (by (with_reducible refine and_shape ?_) <;> kernel_rfl) ?_); (refine gs ?_)))
      refine n_leave ?_
      rw [if_pos (.inr (.inl hn))] at hO
      rw [← hO]
      exact n_ret0 rfl rfl fun ids' w' hp hI' => ⟨rfl, hI'.frm⟩
    obtain ⟨i, rfl⟩ : ∃ i : Nat, x = (i : Int) := ⟨x.toNat, by omega⟩
    have hil : i < S.n := by omega
    have hbi := in_at (st := sd) hil
    have hin0 : ¬ (S.n : Int) ≤ (i : Int) := by omega
    rw [Int.toNat_natCast] at hO
    (repeat ((first | refine n_must rfl ?_ | refine n_chk (drawF_ok (by decide +kernel)) ?_ | refine n_same rfl ?_ | ((first | refine n_must ?_ ?_ | refine n_brT ?_ ?_); (focus (first | (simp [hin0]; done) | (simp [hin0]; omega) | (simp only [hin0]; simp; done)))) | (refine n_brF ?_ ?_; (focus (first | (simp [hin0]; done) | (simp [hin0]; omega) | (simp only [hin0]; simp; done)))) | refine n_must (by (with_reducible refine and_shape ?_) <;> kernel_rfl) ?_); (refine gs ?_)))
    (first | (refine n_ldI (.bool (sd.testBit i)) rfl rfl (fun _ w1 _ hI1 => load_cell aggBool (cellsRes_at (hI1.res 2 rfl rfl) hbi (by simp))) ?_; (refine gs ?_)) | (refine n_ldDI (.bool (sd.testBit i)) rfl rfl (fun _ w1 _ hI1 => load_cell aggBool (cellsRes_at (hI1.res 2 rfl rfl) hbi (by simp))) ?_; (refine gs ?_)) | (refine n_ldRI (.bool (sd.testBit i)) rfl (fun _ w1 _ hI1 => load_cell aggBool (cellsRes_at (hI1.res 2 rfl rfl) hbi (by simp))) ?_; (refine gs ?_)))
    cases hbit : sd.testBit i with
    | true =>
      refine gw ?_
      refine n_leave ?_
      rw [if_pos (.inr (.inr (.inl hbit)))] at hO
      rw [← hO]
      exact n_ret0 rfl rfl fun ids' w' hp hI' => ⟨rfl, hI'.frm⟩
    | false =>
    refine gw ?_
    have hxi : S.L[i]? = some S.L[i] := List.getElem?_eq_getElem hil
    obtain ⟨ad, rfl⟩ := rd_some pa_len (by omega) hR (show 0 < S.L.length by show 0 < S.n; omega)
    have hpi : S.p i = S.L[i] := by simp [Srch.p, List.getD, hxi]
    have hdef : earlyF S sd i = (List.range S.n).all fun k => !(!sd.testBit k && decide (sortF (S.p k) = 2) && decide ((S.p k).to < (S.p i).fr)) := rfl
    have hD : doRN S.L (numR S.L) (ks A) i = doR (ks A) (S.p i).k (S.p i).nm (S.p i).a (S.p i).b (if sortF (S.p i) = 2 then (S.p i).va else numF S.L i) := rfl
    have hbad : ∀ D, badF S i D = ((decide (sortF (S.p i) = 2) && (decide (D.2.2 ≠ (S.p i).er) || decide (D.2.1 ≠ (S.p i).va))) || (decide (sortF (S.p i) = 1) && decide (D.2.2 ≠ 0))) := fun _ => rfl
    have hfit2 := hfit.next S.L (numR S.L) i
    rw [hpi] at hdef hD hO
    simp only [hpi] at hbad
    clear hpi
    generalize S.L[i] = q at *
    refine n_loop (σ := Nat) (fun k => [(0, .raw (.slice (some ad) S.n cap)), (1, .raw (.slice (some al) l.length capl)), (5, .raw (pV q0)), (6, .raw (.slice (some ⟨g, 0, none⟩) S.n S.n)), (7, .int .i64 (j : Nat)), (8, .int .i64 (i : Nat)), (9, .int .i64 (k : Nat))]) (fun _ => [⟨55, [.res (paRes (some ad) S.L)], false⟩, ⟨111, [.res (rmaRes q0 y A G)], true⟩, ⟨4, [.res (inR g S.n sd)], true⟩]) (fun k => k ≤ S.n ∧ ∀ m, m < k → (!(!sd.testBit m && decide (sortF (S.p m) = 2) && decide ((S.p m).to < q.fr))) = true) (fun k => S.n - k) 0 mixed ⟨by omega, by intro j h; omega⟩ (fun _ _ => rfl) rfl (by (repeat (first | exact trivial | refine ⟨⟨rfl, rfl⟩, ?_⟩))) (fun s _ => ⟨by (repeat (first | exact trivial | refine ⟨⟨_, rfl⟩, ?_⟩)), by (repeat (first | exact trivial | refine ⟨⟨_, rfl⟩, ?_⟩))⟩) fun k hk => ?_
    obtain ⟨hk, hJ⟩ := hk
    (refine gs ?_)
    by_cases hkl : k < S.n
    · have ek : IntKind.i64.wrap ((k : Int) + 1) = ((k + 1 : Nat) : Int) := by rw [w64 (by omega) (by omega)]; simp
      have hxk : S.L[k]? = some S.L[k] := List.getElem?_eq_getElem hkl
      have hpk : S.p k = S.L[k] := by simp [Srch.p, List.getD, hxk]
      have hbk := in_at (st := sd) hkl
      generalize S.L[k] = q2 at hxk hpk
      refine gw ?_
      (first | (refine n_ldI (.bool (sd.testBit k)) rfl rfl (fun _ w1 _ hI1 => load_cell aggBool (cellsRes_at (hI1.res 2 rfl rfl) hbk (by simp))) ?_; (refine gs ?_)) | (refine n_ldDI (.bool (sd.testBit k)) rfl rfl (fun _ w1 _ hI1 => load_cell aggBool (cellsRes_at (hI1.res 2 rfl rfl) hbk (by simp))) ?_; (refine gs ?_)) | (refine n_ldRI (.bool (sd.testBit k)) rfl (fun _ w1 _ hI1 => load_cell aggBool (cellsRes_at (hI1.res 2 rfl rfl) hbk (by simp))) ?_; (refine gs ?_)))
      cases hbit2 : sd.testBit k with
      | true =>
        refine gw ?_
        refine n_again ⟨k + 1, ⟨by omega, fun m hm => ?_⟩, by omega, (by (repeat (first | exact trivial | refine ⟨⟨rfl, rfl⟩, ?_⟩ | refine ⟨⟨rfl, congrArg (SV.int .i64) ek⟩, ?_⟩))), ⟨_, rfl⟩⟩
        by_cases em : m = k
        · subst em; exact by rw [hbit2]; rfl
        · exact hJ m (by omega)
      | false =>
        refine gw ?_
        (first | (refine n_ldI (.agg q2.sv) rfl rfl (fun _ w1 _ hI1 => pa_row (hI1.res 0 rfl rfl) hxk rfl) ?_; (refine gs ?_)) | (refine n_ldDI (.agg q2.sv) rfl rfl (fun _ w1 _ hI1 => pa_row (hI1.res 0 rfl rfl) hxk rfl) ?_; (refine gs ?_)) | (refine n_ldRI (.agg q2.sv) rfl (fun _ w1 _ hI1 => pa_row (hI1.res 0 rfl rfl) hxk rfl) ?_; (refine gs ?_)))
        refine gw ?_
        refine n_sameP (.int .i64 (sortF q2)) rfl rfl rfl (fun _ w1 hp1 hI1 => rSort_ok q2 w1) ?_; (refine gs ?_)
        refine gw ?_
        repeat ((first | (refine n_ldI (.agg q2.sv) rfl rfl (fun _ w1 _ hI1 => pa_row (hI1.res 0 rfl rfl) hxk rfl) ?_; (refine gs ?_)) | (refine n_ldDI (.agg q2.sv) rfl rfl (fun _ w1 _ hI1 => pa_row (hI1.res 0 rfl rfl) hxk rfl) ?_; (refine gs ?_)) | (refine n_ldRI (.agg q2.sv) rfl (fun _ w1 _ hI1 => pa_row (hI1.res 0 rfl rfl) hxk rfl) ?_; (refine gs ?_))); refine gw ?_)
        by_cases s2 : sortF q2 = 2
        · (repeat ((first | refine n_must rfl ?_ | refine n_chk (drawF_ok (by decide +kernel)) ?_ | refine n_same rfl ?_ | ((first | refine n_must ?_ ?_ | refine n_brT ?_ ?_); (focus (first | (simp [s2]; done) | (simp [s2]; omega) | (simp only [s2]; simp; done)))) | (refine n_brF ?_ ?_; (focus (first | (simp [s2]; done) | (simp [s2]; omega) | (simp only [s2]; simp; done)))) | refine n_must (by (with_reducible refine and_shape ?_) <;> kernel_rfl) ?_); (refine gs ?_)))
          (repeat ((first | (first | (refine n_ldI (.int .i64 q2.to) rfl rfl (fun _ w1 _ hI1 => load_cell aggInt (pa_cell (hI1.res 0 rfl rfl) hxk 7 rfl (addT ad k 10 7))) ?_; (refine gs ?_)) | (refine n_ldDI (.int .i64 q2.to) rfl rfl (fun _ w1 _ hI1 => load_cell aggInt (pa_cell (hI1.res 0 rfl rfl) hxk 7 rfl (addT ad k 10 7))) ?_; (refine gs ?_)) | (refine n_ldRI (.int .i64 q2.to) rfl (fun _ w1 _ hI1 => load_cell aggInt (pa_cell (hI1.res 0 rfl rfl) hxk 7 rfl (addT ad k 10 7))) ?_; (refine gs ?_))) | (first | (refine n_ldI (.int .i64 q.fr) rfl rfl (fun _ w1 _ hI1 => load_cell aggInt (pa_cell (hI1.res 0 rfl rfl) hxi 6 rfl (addT ad i 10 6))) ?_; (refine gs ?_)) | (refine n_ldDI (.int .i64 q.fr) rfl rfl (fun _ w1 _ hI1 => load_cell aggInt (pa_cell (hI1.res 0 rfl rfl) hxi 6 rfl (addT ad i 10 6))) ?_; (refine gs ?_)) | (refine n_ldRI (.int .i64 q.fr) rfl (fun _ w1 _ hI1 => load_cell aggInt (pa_cell (hI1.res 0 rfl rfl) hxi 6 rfl (addT ad i 10 6))) ?_; (refine gs ?_)))); (repeat ((first | refine n_must rfl ?_ | refine n_chk (drawF_ok (by decide +kernel)) ?_ | refine n_same rfl ?_ | ((first | refine n_must ?_ ?_ | refine n_brT ?_ ?_); (focus (first | (simp [s2]; done) | (simp [s2]; omega) | (simp only [s2]; simp; done)))) | (refine n_brF ?_ ?_; (focus (first | (simp [s2]; done) | (simp [s2]; omega) | (simp only [s2]; simp; done)))) | refine n_must (by (with_reducible refine and_shape ?_) <;> kernel_rfl) ?_); (refine gs ?_)))))
          by_cases hto : q2.to < q.fr
          · (repeat ((first | refine n_must rfl ?_ | refine n_chk (drawF_ok (by decide +kernel)) ?_ | refine n_same rfl ?_ | ((first | refine n_must ?_ ?_ | refine n_brT ?_ ?_); (focus (first | (simp [s2, hto]; done) | (simp [s2, hto]; omega) | (simp only [s2, hto]; simp; done)))) | (refine n_brF ?_ ?_; (focus (first | (simp [s2, hto]; done) | (simp [s2, hto]; omega) | (simp only [s2, hto]; simp; done)))) | refine n_must (by (with_reducible refine and_shape ?_) <;> kernel_rfl) ?_); (refine gs ?_)))
            refine n_leave ?_
            have he : earlyF S sd i = false := by rw [hdef, List.all_eq_false]; exact ⟨k, List.mem_range.2 hkl, by rw [hpk, hbit2, decide_eq_true s2, decide_eq_true hto]; decide⟩
            refine n_leave ?_
            rw [if_pos (.inr (.inr (.inr he)))] at hO
            rw [← hO]
            exact n_ret0 rfl rfl fun ids' w' hp hI' => ⟨rfl, hI'.frm⟩
          · (repeat ((first | refine n_must rfl ?_ | refine n_chk (drawF_ok (by decide +kernel)) ?_ | refine n_same rfl ?_ | ((first | refine n_must ?_ ?_ | refine n_brT ?_ ?_); (focus (first | (simp [s2, hto]; done) | (simp [s2, hto]; omega) | (simp only [s2, hto]; simp; done)))) | (refine n_brF ?_ ?_; (focus (first | (simp [s2, hto]; done) | (simp [s2, hto]; omega) | (simp only [s2, hto]; simp; done)))) | refine n_must (by (with_reducible refine and_shape ?_) <;> kernel_rfl) ?_); (refine gs ?_)))
            refine n_again ⟨k + 1, ⟨by omega, fun m hm => ?_⟩, by omega, (by (repeat (first | exact trivial | refine ⟨⟨rfl, rfl⟩, ?_⟩ | refine ⟨⟨rfl, congrArg (SV.int .i64) ek⟩, ?_⟩))), ⟨_, rfl⟩⟩
            by_cases em : m = k
            · subst em; exact by rw [hpk, decide_eq_false hto]; simp
            · exact hJ m (by omega)
        · (repeat ((first | refine n_must rfl ?_ | refine n_chk (drawF_ok (by decide +kernel)) ?_ | refine n_same rfl ?_ | ((first | refine n_must ?_ ?_ | refine n_brT ?_ ?_); (focus (first | (simp [s2]; done) | (simp [s2]; omega) | (simp only [s2]; simp; done)))) | (refine n_brF ?_ ?_; (focus (first | (simp [s2]; done) | (simp [s2]; omega) | (simp only [s2]; simp; done)))) | refine n_must (by (with_reducible refine and_shape ?_) <;> kernel_rfl) ?_); (refine gs ?_)))
          refine n_again ⟨k + 1, ⟨by omega, fun m hm => ?_⟩, by omega, (by (repeat (first | exact trivial | refine ⟨⟨rfl, rfl⟩, ?_⟩ | refine ⟨⟨rfl, congrArg (SV.int .i64) ek⟩, ?_⟩))), ⟨_, rfl⟩⟩
          by_cases em : m = k
          · subst em; exact by rw [hpk, decide_eq_false s2]; simp
          · exact hJ m (by omega)
    obtain rfl : k = S.n := by omega
    have he : earlyF S sd i = true := by rw [hdef, List.all_eq_true]; exact fun m hm => hJ m (List.mem_range.1 hm)
    rw [if_neg (by rw [hbit, he]; simp; omega)] at hO
    refine gw ?_
    refine n_exit rfl ?_
    (refine gs ?_)
    refine gw ?_
    have hset := in_set (sd := sd) hil
    refine n_storeA (n := g) (off := i) (k := 1) (ty := 4) 2 (ρ := inR g S.n sd) (l := inL S.n sd) (inR g S.n (sd ||| 2 ^ i)) (inL S.n (sd ||| 2 ^ i)) rfl rfl rfl (add_raw g i) rfl rfl rfl rfl rfl rfl rfl rfl (by simp [cellsRes]) (fun _ h => h) (by simp; omega) hset (fun _ _ _ _ h => h) (fun _ h => h) ?_
    (refine gs ?_)
    refine gw ?_
    (first | (refine n_ldI (.agg q.sv) rfl rfl (fun _ w1 _ hI1 => pa_row (hI1.res 0 rfl rfl) hxi rfl) ?_; (refine gs ?_)) | (refine n_ldDI (.agg q.sv) rfl rfl (fun _ w1 _ hI1 => pa_row (hI1.res 0 rfl rfl) hxi rfl) ?_; (refine gs ?_)) | (refine n_ldRI (.agg q.sv) rfl (fun _ w1 _ hI1 => pa_row (hI1.res 0 rfl rfl) hxi rfl) ?_; (refine gs ?_)))
    refine gw ?_
    refine n_call1 rfl fun b1 => ?_
    refine n_sameP (.int .i64 (sortF q)) rfl rfl rfl (fun _ w1 hp1 hI1 => rSort_ok q w1) ?_; (refine gs ?_)
    obtain ⟨ft, hAl⟩ := hfit.fit (by omega)
    have hd' : l.drop (j + 1) = r := by
      have := congrArg List.tail hd
      simpa using this
    by_cases s2 : sortF q = 2
    · rw [if_pos s2] at hD hO
      (repeat ((first | refine n_must rfl ?_ | refine n_chk (drawF_ok (by decide +kernel)) ?_ | refine n_same rfl ?_ | ((first | refine n_must ?_ ?_ | refine n_brT ?_ ?_); (focus (first | (simp [s2]; done) | (simp [s2]; omega) | (simp only [s2]; simp; done)))) | (refine n_brF ?_ ?_; (focus (first | (simp [s2]; done) | (simp [s2]; omega) | (simp only [s2]; simp; done)))) | refine n_must (by (with_reducible refine and_shape ?_) <;> kernel_rfl) ?_); (refine gs ?_)))
      refine n_callR (Y := (Option Addr × Nat) × List Rc × List Rw) 1 (ρ := rmaRes q0 y A G) (fun z => rmaRes q0 z.1 z.2.1 z.2.2) (fun _ => ansS (doR (ks A) q.k q.nm q.a q.b q.va).2.1 (doR (ks A) q.k q.nm q.a q.b q.va).2.2) (fun _ => ansV (doR (ks A) q.k q.nm q.a q.b q.va).2.1 (doR (ks A) q.k q.nm q.a q.b q.va).2.2) (fun z => ks z.2.1 = (doR (ks A) q.k q.nm q.a q.b q.va).1 ∧ AllIn z.2.2 z.2.1 ∧ ∀ r ∈ G, r ∈ z.2.2) rfl rfl (fun _ => rfl) rfl rfl rfl (fun _ w1 hp1 hI1 hR => rmDo_ok hR hin hng ft (by omega) q.k q.nm q.a q.b q.va) ?_
      rintro ⟨z1, A2, G2⟩ ⟨q1, q2, q3⟩
      dsimp only at q1 q2 q3
      rw [hD] at hO hfit2
      generalize doR (ks A) q.k q.nm q.a q.b q.va = D at q1 hO hfit2
      (refine gs ?_)
      refine gw ?_
      by_cases e2 : D.2.1 = q.va
      · by_cases e1 : D.2.2 = q.er
        · have hb : badF S i ([], D.2) = false := by rw [hbad]; simp [s2, e1, e2]
          rw [if_neg (by rw [hb]; simp)] at hO
          (repeat ((first | refine n_must rfl ?_ | refine n_chk (drawF_ok (by decide +kernel)) ?_ | refine n_same rfl ?_ | ((first | refine n_must ?_ ?_ | refine n_brT ?_ ?_); (focus (first | (simp [e1, e2]; done) | (simp [e1, e2]; omega) | (simp only [e1, e2]; simp; done)))) | (refine n_brF ?_ ?_; (focus (first | (simp [e1, e2]; done) | (simp [e1, e2]; omega) | (simp only [e1, e2]; simp; done)))) | refine n_must (by (with_reducible refine and_shape ?_) <;> kernel_rfl) ?_); (refine gs ?_)))
          rw [← q1] at hO hfit2
          exact n_again ⟨(j + 1, sd ||| 2 ^ i, z1, A2, G2), ⟨by dsimp only; omega, by dsimp only; rw [← hd'] at hO; exact hO, q2, ⟨q3 _ hng.1, q3 _ hng.2⟩, hfit2⟩, by dsimp only; omega, (by (repeat (first | exact trivial | refine ⟨⟨rfl, rfl⟩, ?_⟩ | refine ⟨⟨rfl, congrArg (SV.int .i64) ej⟩, ?_⟩))), ⟨_, rfl⟩⟩
        · have hb : badF S i ([], D.2) = true := by rw [hbad]; simp [s2, e1]
          (repeat ((first | refine n_must rfl ?_ | refine n_chk (drawF_ok (by decide +kernel)) ?_ | refine n_same rfl ?_ | ((first | refine n_must ?_ ?_ | refine n_brT ?_ ?_); (focus (first | (simp [e1, e2]; done) | (simp [e1, e2]; omega) | (simp only [e1, e2]; simp; done)))) | (refine n_brF ?_ ?_; (focus (first | (simp [e1, e2]; done) | (simp [e1, e2]; omega) | (simp only [e1, e2]; simp; done)))) | refine n_must (by (with_reducible refine and_shape ?_) <;> kernel_rfl) ?_); (refine gs ?_)))
          refine n_leave ?_
          rw [if_pos hb] at hO
          rw [← hO]
          exact n_ret0 rfl rfl fun ids' w' hp hI' => ⟨rfl, hI'.frm⟩
      · have hb : badF S i ([], D.2) = true := by rw [hbad]; simp [s2, e2]
        (repeat ((first | refine n_must rfl ?_ | refine n_chk (drawF_ok (by decide +kernel)) ?_ | refine n_same rfl ?_ | ((first | refine n_must ?_ ?_ | refine n_brT ?_ ?_); (focus (first | (simp [e2]; done) | (simp [e2]; omega) | (simp only [e2]; simp; done)))) | (refine n_brF ?_ ?_; (focus (first | (simp [e2]; done) | (simp [e2]; omega) | (simp only [e2]; simp; done)))) | refine n_must (by (with_reducible refine and_shape ?_) <;> kernel_rfl) ?_); (refine gs ?_)))
        refine n_leave ?_
        rw [if_pos hb] at hO
        rw [← hO]
        exact n_ret0 rfl rfl fun ids' w' hp hI' => ⟨rfl, hI'.frm⟩
    rw [if_neg s2] at hD hO
    (repeat ((first | refine n_must rfl ?_ | refine n_chk (drawF_ok (by decide +kernel)) ?_ | refine n_same rfl ?_ | ((first | refine n_must ?_ ?_ | refine n_brT ?_ ?_); (focus (first | (simp [s2]; done) | (simp [s2]; omega) | (simp only [s2]; simp; done)))) | (refine n_brF ?_ ?_; (focus (first | (simp [s2]; done) | (simp [s2]; omega) | (simp only [s2]; simp; done)))) | refine n_must (by (with_reducible refine and_shape ?_) <;> kernel_rfl) ?_); (refine gs ?_)))
    refine n_sameP (.int .i64 (sortF q)) rfl rfl rfl (fun _ w1 hp1 hI1 => rSort_ok q w1) ?_; (refine gs ?_)
    by_cases s1 : sortF q = 1
    · by_cases ht : q.to = -1
      · have hop : openF q = true := by simp [openF, ht]
        rw [if_pos ⟨s1, hop⟩] at hO
        (repeat ((first | refine n_must rfl ?_ | refine n_chk (drawF_ok (by decide +kernel)) ?_ | refine n_same rfl ?_ | ((first | refine n_must ?_ ?_ | refine n_brT ?_ ?_); (focus (first | (simp [s1, ht]; done) | (simp [s1, ht]; omega) | (simp only [s1, ht]; simp; done)))) | (refine n_brF ?_ ?_; (focus (first | (simp [s1, ht]; done) | (simp [s1, ht]; omega) | (simp only [s1, ht]; simp; done)))) | refine n_must (by (with_reducible refine and_shape ?_) <;> kernel_rfl) ?_); (refine gs ?_)))
        refine n_sameP (.int .i64 (numF S.L i)) rfl rfl rfl (fun _ w1 hp1 hI1 => rNumber_ok cap (hI1.res 0 rfl rfl) (fun x hx => hI1.resLt 0 rfl rfl x (by first | exact hx | exact rd_inR hx | exact rd_inC hx)) hN (by omega)) ?_; (refine gs ?_)
        refine gw ?_
        refine n_callR (Y := (Option Addr × Nat) × List Rc × List Rw) 1 (ρ := rmaRes q0 y A G) (fun z => rmaRes q0 z.1 z.2.1 z.2.2) (fun _ => ansS (doR (ks A) q.k q.nm q.a q.b (numF S.L i)).2.1 (doR (ks A) q.k q.nm q.a q.b (numF S.L i)).2.2) (fun _ => ansV (doR (ks A) q.k q.nm q.a q.b (numF S.L i)).2.1 (doR (ks A) q.k q.nm q.a q.b (numF S.L i)).2.2) (fun z => ks z.2.1 = (doR (ks A) q.k q.nm q.a q.b (numF S.L i)).1 ∧ AllIn z.2.2 z.2.1 ∧ ∀ r ∈ G, r ∈ z.2.2) rfl rfl (fun _ => rfl) rfl rfl rfl (fun _ w1 hp1 hI1 hR => rmDo_ok hR hin hng ft (by omega) q.k q.nm q.a q.b (numF S.L i)) ?_
        rintro ⟨z1, A2, G2⟩ ⟨q1, q2, q3⟩
        dsimp only at q1 q2 q3
        rw [hD] at hO hfit2
        generalize doR (ks A) q.k q.nm q.a q.b (numF S.L i) = D at q1 hO hfit2
        (refine gs ?_)
        refine gw ?_
        by_cases e0 : D.2.2 = 0
        · by_cases hlast : j + 1 = l.length
          · have hr0 : r = [] := List.eq_nil_of_length_eq_zero (by omega)
            have hq : (j : Int) = IntKind.i64.wrap ((l.length : Int) - 1) := by rw [w64 (by omega) (by omega)]; omega
            (repeat ((first | refine n_must rfl ?_ | refine n_chk (drawF_ok (by decide +kernel)) ?_ | refine n_same rfl ?_ | ((first | refine n_must ?_ ?_ | refine n_brT ?_ ?_); (focus (first | (simp [e0, hq]; done) | (simp [e0, hq]; omega) | (simp only [e0, hq]; simp; done)))) | (refine n_brF ?_ ?_; (focus (first | (simp [e0, hq]; done) | (simp [e0, hq]; omega) | (simp only [e0, hq]; simp; done)))) | refine n_must (by (with_reducible refine and_shape ?_) <;> kernel_rfl) ?_); (refine gs ?_)))
            refine n_leave ?_
            rw [if_pos (.inr hr0)] at hO
            rw [← hO]
            exact n_ret0 rfl rfl fun ids' w' hp hI' => ⟨rfl, hI'.frm⟩
          · have hr0 : r ≠ [] := fun h => by rw [h] at hlen; simp at hlen; omega
            have hq : ¬ (j : Int) = IntKind.i64.wrap ((l.length : Int) - 1) := by rw [w64 (by omega) (by omega)]; omega
            rw [if_neg (by rintro (h | h); exact h e0; exact hr0 h)] at hO
            (repeat ((first | refine n_must rfl ?_ | refine n_chk (drawF_ok (by decide +kernel)) ?_ | refine n_same rfl ?_ | ((first | refine n_must ?_ ?_ | refine n_brT ?_ ?_); (focus (first | (simp [e0, hq]; done) | (simp [e0, hq]; omega) | (simp only [e0, hq]; simp; done)))) | (refine n_brF ?_ ?_; (focus (first | (simp [e0, hq]; done) | (simp [e0, hq]; omega) | (simp only [e0, hq]; simp; done)))) | refine n_must (by (with_reducible refine and_shape ?_) <;> kernel_rfl) ?_); (refine gs ?_)))
            rw [← q1] at hO hfit2
            exact n_again ⟨(j + 1, sd ||| 2 ^ i, z1, A2, G2), ⟨by dsimp only; omega, by dsimp only; rw [← hd'] at hO; exact hO, q2, ⟨q3 _ hng.1, q3 _ hng.2⟩, hfit2⟩, by dsimp only; omega, (by (repeat (first | exact trivial | refine ⟨⟨rfl, rfl⟩, ?_⟩ | refine ⟨⟨rfl, congrArg (SV.int .i64) ej⟩, ?_⟩))), ⟨_, rfl⟩⟩
        · (repeat ((first | refine n_must rfl ?_ | refine n_chk (drawF_ok (by decide +kernel)) ?_ | refine n_same rfl ?_ | ((first | refine n_must ?_ ?_ | refine n_brT ?_ ?_); (focus (first | (simp [e0]; done) | (simp [e0]; omega) | (simp only [e0]; simp; done)))) | (refine n_brF ?_ ?_; (focus (first | (simp [e0]; done) | (simp [e0]; omega) | (simp only [e0]; simp; done)))) | refine n_must (by (with_reducible refine and_shape ?_) <;> kernel_rfl) ?_); (refine gs ?_)))
          refine n_leave ?_
          rw [if_pos (.inl e0)] at hO
          rw [← hO]
          exact n_ret0 rfl rfl fun ids' w' hp hI' => ⟨rfl, hI'.frm⟩
      by_cases he1 : q.er = 111
      · have hop : openF q = true := by simp [openF, he1]
        rw [if_pos ⟨s1, hop⟩] at hO
        (repeat ((first | refine n_must rfl ?_ | refine n_chk (drawF_ok (by decide +kernel)) ?_ | refine n_same rfl ?_ | ((first | refine n_must ?_ ?_ | refine n_brT ?_ ?_); (focus (first | (simp [s1, ht, he1]; done) | (simp [s1, ht, he1]; omega) | (simp only [s1, ht, he1]; simp; done)))) | (refine n_brF ?_ ?_; (focus (first | (simp [s1, ht, he1]; done) | (simp [s1, ht, he1]; omega) | (simp only [s1, ht, he1]; simp; done)))) | refine n_must (by (with_reducible refine and_shape ?_) <;> kernel_rfl) ?_); (refine gs ?_)))
        refine n_sameP (.int .i64 (numF S.L i)) rfl rfl rfl (fun _ w1 hp1 hI1 => rNumber_ok cap (hI1.res 0 rfl rfl) (fun x hx => hI1.resLt 0 rfl rfl x (by first | exact hx | exact rd_inR hx | exact rd_inC hx)) hN (by omega)) ?_; (refine gs ?_)
        refine gw ?_
        refine n_callR (Y := (Option Addr × Nat) × List Rc × List Rw) 1 (ρ := rmaRes q0 y A G) (fun z => rmaRes q0 z.1 z.2.1 z.2.2) (fun _ => ansS (doR (ks A) q.k q.nm q.a q.b (numF S.L i)).2.1 (doR (ks A) q.k q.nm q.a q.b (numF S.L i)).2.2) (fun _ => ansV (doR (ks A) q.k q.nm q.a q.b (numF S.L i)).2.1 (doR (ks A) q.k q.nm q.a q.b (numF S.L i)).2.2) (fun z => ks z.2.1 = (doR (ks A) q.k q.nm q.a q.b (numF S.L i)).1 ∧ AllIn z.2.2 z.2.1 ∧ ∀ r ∈ G, r ∈ z.2.2) rfl rfl (fun _ => rfl) rfl rfl rfl (fun _ w1 hp1 hI1 hR => rmDo_ok hR hin hng ft (by omega) q.k q.nm q.a q.b (numF S.L i)) ?_
        rintro ⟨z1, A2, G2⟩ ⟨q1, q2, q3⟩
        dsimp only at q1 q2 q3
        rw [hD] at hO hfit2
        generalize doR (ks A) q.k q.nm q.a q.b (numF S.L i) = D at q1 hO hfit2
        (refine gs ?_)
        refine gw ?_
        by_cases e0 : D.2.2 = 0
        · by_cases hlast : j + 1 = l.length
          · have hr0 : r = [] := List.eq_nil_of_length_eq_zero (by omega)
            have hq : (j : Int) = IntKind.i64.wrap ((l.length : Int) - 1) := by rw [w64 (by omega) (by omega)]; omega
            (repeat ((first | refine n_must rfl ?_ | refine n_chk (drawF_ok (by decide +kernel)) ?_ | refine n_same rfl ?_ | ((first | refine n_must ?_ ?_ | refine n_brT ?_ ?_); (focus (first | (simp [e0, hq]; done) | (simp [e0, hq]; omega) | (simp only [e0, hq]; simp; done)))) | (refine n_brF ?_ ?_; (focus (first | (simp [e0, hq]; done) | (simp [e0, hq]; omega) | (simp only [e0, hq]; simp; done)))) | refine n_must (by (with_reducible refine and_shape ?_) <;> kernel_rfl) ?_); (refine gs ?_)))
            refine n_leave ?_
            rw [if_pos (.inr hr0)] at hO
            rw [← hO]
            exact n_ret0 rfl rfl fun ids' w' hp hI' => ⟨rfl, hI'.frm⟩
          · have hr0 : r ≠ [] := fun h => by rw [h] at hlen; simp at hlen; omega
            have hq : ¬ (j : Int) = IntKind.i64.wrap ((l.length : Int) - 1) := by rw [w64 (by omega) (by omega)]; omega
            rw [if_neg (by rintro (h | h); exact h e0; exact hr0 h)] at hO
            (repeat ((first | refine n_must rfl ?_ | refine n_chk (drawF_ok (by decide +kernel)) ?_ | refine n_same rfl ?_ | ((first | refine n_must ?_ ?_ | refine n_brT ?_ ?_); (focus (first | (simp [e0, hq]; done) | (simp [e0, hq]; omega) | (simp only [e0, hq]; simp; done)))) | (refine n_brF ?_ ?_; (focus (first | (simp [e0, hq]; done) | (simp [e0, hq]; omega) | (simp only [e0, hq]; simp; done)))) | refine n_must (by (with_reducible refine and_shape ?_) <;> kernel_rfl) ?_); (refine gs ?_)))
            rw [← q1] at hO hfit2
            exact n_again ⟨(j + 1, sd ||| 2 ^ i, z1, A2, G2), ⟨by dsimp only; omega, by dsimp only; rw [← hd'] at hO; exact hO, q2, ⟨q3 _ hng.1, q3 _ hng.2⟩, hfit2⟩, by dsimp only; omega, (by (repeat (first | exact trivial | refine ⟨⟨rfl, rfl⟩, ?_⟩ | refine ⟨⟨rfl, congrArg (SV.int .i64) ej⟩, ?_⟩))), ⟨_, rfl⟩⟩
        · (repeat ((first | refine n_must rfl ?_ | refine n_chk (drawF_ok (by decide +kernel)) ?_ | refine n_same rfl ?_ | ((first | refine n_must ?_ ?_ | refine n_brT ?_ ?_); (focus (first | (simp [e0]; done) | (simp [e0]; omega) | (simp only [e0]; simp; done)))) | (refine n_brF ?_ ?_; (focus (first | (simp [e0]; done) | (simp [e0]; omega) | (simp only [e0]; simp; done)))) | refine n_must (by (with_reducible refine and_shape ?_) <;> kernel_rfl) ?_); (refine gs ?_)))
          refine n_leave ?_
          rw [if_pos (.inl e0)] at hO
          rw [← hO]
          exact n_ret0 rfl rfl fun ids' w' hp hI' => ⟨rfl, hI'.frm⟩
      · have hop : ¬ openF q = true := by simp [openF, ht, he1]
        rw [if_neg fun h => hop h.2] at hO
        (repeat ((first | refine n_must rfl ?_ | refine n_chk (drawF_ok (by decide +kernel)) ?_ | refine n_same rfl ?_ | ((first | refine n_must ?_ ?_ | refine n_brT ?_ ?_); (focus (first | (simp [s1, ht, he1]; done) | (simp [s1, ht, he1]; omega) | (simp only [s1, ht, he1]; simp; done)))) | (refine n_brF ?_ ?_; (focus (first | (simp [s1, ht, he1]; done) | (simp [s1, ht, he1]; omega) | (simp only [s1, ht, he1]; simp; done)))) | refine n_must (by (with_reducible refine and_shape ?_) <;> kernel_rfl) ?_); (refine gs ?_)))
        refine n_leave ?_
        rw [← hO]
        exact n_ret0 rfl rfl fun ids' w' hp hI' => ⟨rfl, hI'.frm⟩
    · rw [if_neg fun h => s1 h.1] at hO
      (repeat ((first | refine n_must rfl ?_ | refine n_chk (drawF_ok (by decide +kernel)) ?_ | refine n_same rfl ?_ | ((first | refine n_must ?_ ?_ | refine n_brT ?_ ?_); (focus (first | (simp [s1]; done) | (simp [s1]; omega) | (simp only [s1]; simp; done)))) | (refine n_brF ?_ ?_; (focus (first | (simp [s1]; done) | (simp [s1]; omega) | (simp only [s1]; simp; done)))) | refine n_must (by (with_reducible refine and_shape ?_) <;> kernel_rfl) ?_); (refine gs ?_)))
      refine n_leave ?_
      rw [← hO]
      exact n_ret0 rfl rfl fun ids' w' hp hI' => ⟨rfl, hI'.frm⟩
  obtain rfl : j = l.length := by omega
  rw [List.drop_of_length_le (Nat.le_refl _), ordG] at hO
  subst hO
  refine gw ?_
  refine n_exit rfl ?_
  (refine gs ?_)
  refine gw ?_
  have hleft : leftF S sd = (List.range S.n).any fun i => decide (sortF (S.p i) = 2) && !sd.testBit i := rfl
  refine n_loop (σ := Nat) (fun k => [(0, .raw (.slice o S.n cap)), (6, .raw (.slice (some ⟨g, 0, none⟩) S.n S.n)), (15, .int .i64 (k : Nat))]) (fun _ => [⟨55, [.res (paRes o S.L)], false⟩, ⟨111, [.res (rmaRes q0 y A G)], true⟩, ⟨4, [.res (inR g S.n sd)], true⟩]) (fun k => k ≤ S.n ∧ ∀ m, m < k → (decide (sortF (S.p m) = 2) && !sd.testBit m) = false) (fun k => S.n - k) 0 mixed ⟨by omega, by intro j h; omega⟩ (fun _ _ => rfl) rfl (by (repeat (first | exact trivial | refine ⟨⟨rfl, rfl⟩, ?_⟩))) (fun s _ => ⟨by (repeat (first | exact trivial | refine ⟨⟨_, rfl⟩, ?_⟩)), by (repeat (first | exact trivial | refine ⟨⟨_, rfl⟩, ?_⟩))⟩) fun k hk => ?_
  obtain ⟨hk, hJ⟩ := hk
  (refine gs ?_)
  by_cases hkl : k < S.n
  · have ek : IntKind.i64.wrap ((k : Int) + 1) = ((k + 1 : Nat) : Int) := by rw [w64 (by omega) (by omega)]; simp
    have hxk : S.L[k]? = some S.L[k] := List.getElem?_eq_getElem hkl
    obtain ⟨ad, rfl⟩ := rd_some pa_len (by omega) hR (show 0 < S.L.length by show 0 < S.n; omega)
    have hpk : S.p k = S.L[k] := by simp [Srch.p, List.getD, hxk]
    have hbk := in_at (st := sd) hkl
    generalize S.L[k] = q2 at hxk hpk
    refine gw ?_
    (first | (refine n_ldI (.agg q2.sv) rfl rfl (fun _ w1 _ hI1 => pa_row (hI1.res 0 rfl rfl) hxk rfl) ?_; (refine gs ?_)) | (refine n_ldDI (.agg q2.sv) rfl rfl (fun _ w1 _ hI1 => pa_row (hI1.res 0 rfl rfl) hxk rfl) ?_; (refine gs ?_)) | (refine n_ldRI (.agg q2.sv) rfl (fun _ w1 _ hI1 => pa_row (hI1.res 0 rfl rfl) hxk rfl) ?_; (refine gs ?_)))
    refine gw ?_
    refine n_sameP (.int .i64 (sortF q2)) rfl rfl rfl (fun _ w1 hp1 hI1 => rSort_ok q2 w1) ?_; (refine gs ?_)
    by_cases s2 : sortF q2 = 2
    · (repeat ((first | refine n_must rfl ?_ | refine n_chk (drawF_ok (by decide +kernel)) ?_ | refine n_same rfl ?_ | ((first | refine n_must ?_ ?_ | refine n_brT ?_ ?_); (focus (first | (simp [s2]; done) | (simp [s2]; omega) | (simp only [s2]; simp; done)))) | (refine n_brF ?_ ?_; (focus (first | (simp [s2]; done) | (simp [s2]; omega) | (simp only [s2]; simp; done)))) | refine n_must (by (with_reducible refine and_shape ?_) <;> kernel_rfl) ?_); (refine gs ?_)))
      (first | (refine n_ldI (.bool (sd.testBit k)) rfl rfl (fun _ w1 _ hI1 => load_cell aggBool (cellsRes_at (hI1.res 2 rfl rfl) hbk (by simp))) ?_; (refine gs ?_)) | (refine n_ldDI (.bool (sd.testBit k)) rfl rfl (fun _ w1 _ hI1 => load_cell aggBool (cellsRes_at (hI1.res 2 rfl rfl) hbk (by simp))) ?_; (refine gs ?_)) | (refine n_ldRI (.bool (sd.testBit k)) rfl (fun _ w1 _ hI1 => load_cell aggBool (cellsRes_at (hI1.res 2 rfl rfl) hbk (by simp))) ?_; (refine gs ?_)))
      cases hbit2 : sd.testBit k with
      | true =>
        refine gw ?_
        refine n_again ⟨k + 1, ⟨by omega, fun m hm => ?_⟩, by omega, (by (repeat (first | exact trivial | refine ⟨⟨rfl, rfl⟩, ?_⟩ | refine ⟨⟨rfl, congrArg (SV.int .i64) ek⟩, ?_⟩))), ⟨_, rfl⟩⟩
        by_cases em : m = k
        · subst em; exact by rw [hbit2]; simp
        · exact hJ m (by omega)
      | false =>
        refine gw ?_
        refine n_leave ?_
        have e : leftF S sd = true := by rw [hleft, List.any_eq_true]; exact ⟨k, List.mem_range.2 hkl, by rw [hpk, hbit2, decide_eq_true s2]; rfl⟩
        rw [e]
        exact n_ret0 rfl rfl fun ids' w' hp hI' => ⟨rfl, hI'.frm⟩
    · (repeat ((first | refine n_must rfl ?_ | refine n_chk (drawF_ok (by decide +kernel)) ?_ | refine n_same rfl ?_ | ((first | refine n_must ?_ ?_ | refine n_brT ?_ ?_); (focus (first | (simp [s2]; done) | (simp [s2]; omega) | (simp only [s2]; simp; done)))) | (refine n_brF ?_ ?_; (focus (first | (simp [s2]; done) | (simp [s2]; omega) | (simp only [s2]; simp; done)))) | refine n_must (by (with_reducible refine and_shape ?_) <;> kernel_rfl) ?_); (refine gs ?_)))
      refine n_again ⟨k + 1, ⟨by omega, fun m hm => ?_⟩, by omega, (by (repeat (first | exact trivial | refine ⟨⟨rfl, rfl⟩, ?_⟩ | refine ⟨⟨rfl, congrArg (SV.int .i64) ek⟩, ?_⟩))), ⟨_, rfl⟩⟩
      by_cases em : m = k
      · subst em; exact by rw [hpk, decide_eq_false s2]; rfl
      · exact hJ m (by omega)
  obtain rfl : k = S.n := by omega
  have e : leftF S sd = false := by
    rw [hleft, List.any_eq_false]
    intro m hm
    rw [hJ m (List.mem_range.1 hm)]; simp
  rw [e]
  refine gw ?_
  refine n_exit rfl ?_
  (refine gs ?_)
  refine gw ?_
  exact n_ret0 rfl rfl fun ids' w' hp hI' => ⟨rfl, hI'.frm⟩
end
section
set_option maxRecDepth 100000
set_option linter.unusedSimpArgs false
set_option linter.unusedVariables false
set_option maxHeartbeats 16000000
open Go.RowKit

theorem searchF_len (L : List Pa) : (searchF L).1.length ≤ 13 := by
  unfold searchF
  split
  · simp
  · split
    · simp
    · split
      · simp
      · rename_i l h
        have := fromF_len (srchOf L) 13 0 [] [] l (by unfold srchR at h; exact h)
        simpa using this
theorem paMark_good : paMark.good := ⟨⟨by decide, by decide⟩, ⟨by decide, by decide⟩, by decide, ⟨by decide, by decide⟩, ⟨by decide, by decide⟩⟩
theorem sizeI17 : sizeB Try.prog 3 = some 1 := by kernel_rfl
theorem searches_ok {o : Option Addr} {L : List Pa} {w : World} (cap : Nat) (hR : (paRes o L).R w) (hlt : ∀ x ∈ (paRes o L).fp, x < w.heap.size) (hl : L.length ≤ 1599289640390) (hg : ∀ p ∈ L, p.good) :
    Calls Try.prog 10 #[.slice o L.length cap] w fun x w' => x = .returned (.bool true) ∧ Frm [] w w' := by
  obtain ⟨it, hit, hparts⟩ := Option.map_eq_some_iff.1 infoPast
  simp only [Prod.mk.injEq] at hparts
  have hI := Inv.nil (P := Try.prog) (N := 146) (S := []) (os := []) w
  have hL1 : ∀ w1, Frm [] w w1 → (paRes o L).R w1 := fun w1 hf => (paRes o L).stable _ _ (fun k hk => hf.block k (hlt k hk) (by simp)) hR
  have hLlt1 : ∀ w1, Frm [] w w1 → ∀ x ∈ (paRes o L).fp, x < w1.heap.size := fun w1 hf x hx => Nat.lt_of_lt_of_le (hlt x hx) hf.size
  refine calls_sm (cx 146 [] [] w) (vals := [.raw (.slice o L.length cap)]) mixed Try.func10 rfl rfl rfl hI rfl (st rfl ?_); conv => arg 3; whnf
  refine gg ?_
  refine n_callN (fun y : Nat × Nat => paRow (some ⟨y.1, 0, none⟩, y.2) (L ++ [paMark])) 55 (fun y => .raw (.slice (some ⟨y.1, 0, none⟩) (L.length + 1) y.2)) (fun y => .slice (some ⟨y.1, 0, none⟩) (L.length + 1) y.2) (fun y => L.length + 1 ≤ y.2) rfl rfl rfl (fun _ => rfl) (fun w1 hI1 => lent_ok cap (hL1 _ hI1.frm) (hLlt1 _ hI1.frm) hl) ?_
  rintro ⟨gx, cx'⟩ hcx hnx
  dsimp only at hcx
  (refine gs ?_)
  refine gw ?_
  have hxP : ∀ {w1}, (paRow (some ⟨gx, 0, none⟩, cx') (L ++ [paMark])).R w1 → (paRes (some ⟨gx, 0, none⟩) L).R w1 := fun h => rd_pre (ys := paMark.l) (by have := rd_of_row h; simpa using this)
  refine n_sliceHi (n := L.length) rfl rfl elemPast sizePast rfl rfl (by omega) ?_
  (refine gs ?_)
  refine gw ?_
  refine n_callN (fun y : Option Addr × Nat => oRes y (searchF L).1) 3 (fun y => .tup [.raw (.slice y.1 (searchF L).1.length y.2), .int .i64 (searchF L).2]) (fun y => .tuple #[.slice y.1 (searchF L).1.length y.2, .int .i64 (searchF L).2]) (fun _ => True) rfl rfl rfl (fun _ => rfl) (fun w1 hI1 => Search_ok (o := some ⟨gx, 0, none⟩) (L := L) cx' (hxP (hI1.res 0 rfl rfl)) (fun x hx => hI1.resLt 0 rfl rfl x (by first | exact hx | exact rd_inR hx | exact rd_inC hx)) (by omega) hg) ?_
  rintro ⟨yo, yc⟩ _ hnew2
  have hsl := searchF_len L
  (refine gs ?_)
  refine gw ?_
  by_cases hN : L.length ≤ 12
  · (repeat ((first | refine n_must rfl ?_ | refine n_chk (drawF_ok (by decide +kernel)) ?_ | refine n_same rfl ?_ | ((first | refine n_must ?_ ?_ | refine n_brT ?_ ?_); (focus (first | (simp [hN]; done) | (simp [hN]; omega) | (simp only [hN]; simp; done)))) | (refine n_brF ?_ ?_; (focus (first | (simp [hN]; done) | (simp [hN]; omega) | (simp only [hN]; simp; done)))) | refine n_must (by (with_reducible refine and_shape ?_) <;> kernel_rfl) ?_); (refine gs ?_)))
    refine n_sameP (.bool (rightH L)) rfl rfl rfl (fun _ w1 hp1 hI1 => rRight17_ok cap (hL1 _ hI1.frm) (hLlt1 _ hI1.frm) (by omega)) ?_; (refine gs ?_)
    cases hr : rightH L with
    | true =>
      refine gw ?_
      refine n_sameP (.int .i64 (manyF L)) rfl rfl rfl (fun _ w1 hp1 hI1 => many_ok cap (hL1 _ hI1.frm) (hLlt1 _ hI1.frm) (by omega)) ?_; (refine gs ?_)
      by_cases hm : 8 < manyF L
      · (repeat ((first | refine n_must rfl ?_ | refine n_chk (drawF_ok (by decide +kernel)) ?_ | refine n_same rfl ?_ | ((first | refine n_must ?_ ?_ | refine n_brT ?_ ?_); (focus (first | (simp [hm]; done) | (simp [hm]; omega) | (simp only [hm]; simp; done)))) | (refine n_brF ?_ ?_; (focus (first | (simp [hm]; done) | (simp [hm]; omega) | (simp only [hm]; simp; done)))) | refine n_must (by (with_reducible refine and_shape ?_) <;> kernel_rfl) ?_); (refine gs ?_)))
        refine n_sliceHi (n := L.length) rfl rfl elemPast sizePast rfl rfl (by omega) ?_
        (refine gs ?_)
        refine gw ?_
        refine n_sameP (.bool true) rfl rfl rfl (fun _ w1 hp1 hI1 => samePast_ok cx' cap (hxP (hI1.res 0 rfl rfl)) (fun x hx => hI1.resLt 0 rfl rfl x (by first | exact hx | exact rd_inR hx | exact rd_inC hx)) (hL1 _ hI1.frm) (hLlt1 _ hI1.frm) (fun x hx hm => by have h1 := hI1.res_new 0 rfl rfl rfl (by simp) x (by first | exact hx | exact rd_inR hx | exact rd_inC hx); have h2 := hlt x hm; exact absurd h2 (Nat.not_lt.2 h1)) (by omega)) ?_; (refine gs ?_)
        refine gw ?_
        (first | (refine n_ldI (.int .i64 (-77)) rfl rfl (fun _ w1 _ hI1 => load_cell aggInt (row_at pa_len (hI1.res 0 rfl rfl) (i := L.length) (x := paMark) (by simp) (j := 6) (by omega) rfl (addT ⟨gx, 0, none⟩ L.length 10 6))) ?_; (refine gs ?_)) | (refine n_ldDI (.int .i64 (-77)) rfl rfl (fun _ w1 _ hI1 => load_cell aggInt (row_at pa_len (hI1.res 0 rfl rfl) (i := L.length) (x := paMark) (by simp) (j := 6) (by omega) rfl (addT ⟨gx, 0, none⟩ L.length 10 6))) ?_; (refine gs ?_)) | (refine n_ldRI (.int .i64 (-77)) rfl (fun _ w1 _ hI1 => load_cell aggInt (row_at pa_len (hI1.res 0 rfl rfl) (i := L.length) (x := paMark) (by simp) (j := 6) (by omega) rfl (addT ⟨gx, 0, none⟩ L.length 10 6))) ?_; (refine gs ?_)))
        refine gw ?_
        have hS : searchF L = match (srchR L).1 with | none => ([], 171) | some l => (l.map fun i : Nat => (i : Int), 0) := by
          rw [searchF, if_neg (by rw [hr]; simp), if_neg (by omega)]
          cases (srchR L).1 <;> rfl
        rw [search_rest hr hN] at hS
        cases hF : restF (srchOf L) (numR L) 13 0 [] with
        | none =>
          rw [hF] at hS
          dsimp only at hS
          rw [hS]
          refine gw ?_
          exact n_ret0 rfl rfl fun ids' w' hp hI' => ⟨rfl, hI'.frm⟩
        | some l =>
          rw [hF] at hS
          dsimp only at hS
          have ho := rest_order 13 0 [] l hF
          have hll : (l.map fun i : Nat => (i : Int)).length ≤ 13 := by rw [hS] at hsl; exact hsl
          rw [hS]
          generalize (l.map fun i : Nat => (i : Int)) = l2 at ho hll
          refine gw ?_
          refine n_sameP (.bool true) rfl rfl rfl (fun _ w1 hp1 hI1 => (by have h := order_ok (S := srchOf L) (o := o) (ol := yo) (l := l2) (w := w1) cap yc hN (hL1 _ hI1.frm) (hLlt1 _ hI1.frm) (rd_of_row (hI1.res 1 rfl rfl)) (fun x hx => hI1.resLt 1 rfl rfl x (by first | exact hx | exact rd_inR hx | exact rd_inC hx)) (by omega); rw [ho] at h; exact h)) ?_; (refine gs ?_)
          refine gw ?_
          exact n_ret0 rfl rfl fun ids' w' hp hI' => ⟨rfl, hI'.frm⟩
      · (repeat ((first | refine n_must rfl ?_ | refine n_chk (drawF_ok (by decide +kernel)) ?_ | refine n_same rfl ?_ | ((first | refine n_must ?_ ?_ | refine n_brT ?_ ?_); (focus (first | (simp [hm]; done) | (simp [hm]; omega) | (simp only [hm]; simp; done)))) | (refine n_brF ?_ ?_; (focus (first | (simp [hm]; done) | (simp [hm]; omega) | (simp only [hm]; simp; done)))) | refine n_must (by (with_reducible refine and_shape ?_) <;> kernel_rfl) ?_); (refine gs ?_)))
        refine n_callN (fun y : Option Addr × Nat => oRes y (searchF L).1) 3 (fun y => .tup [.raw (.slice y.1 (searchF L).1.length y.2), .int .i64 (searchF L).2]) (fun y => .tuple #[.slice y.1 (searchF L).1.length y.2, .int .i64 (searchF L).2]) (fun _ => True) rfl rfl rfl (fun _ => rfl) (fun w1 hI1 => rSearch_ok (o := o) (L := L) cap (hL1 _ hI1.frm) (hLlt1 _ hI1.frm) (by omega)) ?_
        rintro ⟨zo, zc⟩ _ hnew3
        (refine gs ?_)
        refine gw ?_
        refine n_sameP (.bool true) rfl rfl rfl (fun _ w1 hp1 hI1 => same_ok (l := (searchF L).1) yc zc (rd_of_row (hI1.res 1 rfl rfl)) (fun x hx => hI1.resLt 1 rfl rfl x (by first | exact hx | exact rd_inR hx | exact rd_inC hx)) (rd_of_row (hI1.res 2 rfl rfl)) (fun x hx => hI1.resLt 2 rfl rfl x (by first | exact hx | exact rd_inR hx | exact rd_inC hx)) (by omega)) ?_; (refine gs ?_)
        refine gw ?_
        refine n_sliceHi (n := L.length) rfl rfl elemPast sizePast rfl rfl (by omega) ?_
        (refine gs ?_)
        refine gw ?_
        refine n_sameP (.bool true) rfl rfl rfl (fun _ w1 hp1 hI1 => samePast_ok cx' cap (hxP (hI1.res 0 rfl rfl)) (fun x hx => hI1.resLt 0 rfl rfl x (by first | exact hx | exact rd_inR hx | exact rd_inC hx)) (hL1 _ hI1.frm) (hLlt1 _ hI1.frm) (fun x hx hm => by have h1 := hI1.res_new 0 rfl rfl rfl (by simp) x (by first | exact hx | exact rd_inR hx | exact rd_inC hx); have h2 := hlt x hm; exact absurd h2 (Nat.not_lt.2 h1)) (by omega)) ?_; (refine gs ?_)
        refine gw ?_
        (first | (refine n_ldI (.int .i64 (-77)) rfl rfl (fun _ w1 _ hI1 => load_cell aggInt (row_at pa_len (hI1.res 0 rfl rfl) (i := L.length) (x := paMark) (by simp) (j := 6) (by omega) rfl (addT ⟨gx, 0, none⟩ L.length 10 6))) ?_; (refine gs ?_)) | (refine n_ldDI (.int .i64 (-77)) rfl rfl (fun _ w1 _ hI1 => load_cell aggInt (row_at pa_len (hI1.res 0 rfl rfl) (i := L.length) (x := paMark) (by simp) (j := 6) (by omega) rfl (addT ⟨gx, 0, none⟩ L.length 10 6))) ?_; (refine gs ?_)) | (refine n_ldRI (.int .i64 (-77)) rfl (fun _ w1 _ hI1 => load_cell aggInt (row_at pa_len (hI1.res 0 rfl rfl) (i := L.length) (x := paMark) (by simp) (j := 6) (by omega) rfl (addT ⟨gx, 0, none⟩ L.length 10 6))) ?_; (refine gs ?_)))
        refine gw ?_
        have h5 : ¬ 5 < L.length ∨ 5 < L.length := by omega
        rcases h5 with h5 | h5
        rotate_left
        · (repeat ((first | refine n_must rfl ?_ | refine n_chk (drawF_ok (by decide +kernel)) ?_ | refine n_same rfl ?_ | ((first | refine n_must ?_ ?_ | refine n_brT ?_ ?_); (focus (first | (simp [h5]; done) | (simp [h5]; omega) | (simp only [h5]; simp; done)))) | (refine n_brF ?_ ?_; (focus (first | (simp [h5]; done) | (simp [h5]; omega) | (simp only [h5]; simp; done)))) | refine n_must (by (with_reducible refine and_shape ?_) <;> kernel_rfl) ?_); (refine gs ?_)))
          exact n_ret0 rfl rfl fun ids' w' hp hI' => ⟨rfl, hI'.frm⟩
        (repeat ((first | refine n_must rfl ?_ | refine n_chk (drawF_ok (by decide +kernel)) ?_ | refine n_same rfl ?_ | ((first | refine n_must ?_ ?_ | refine n_brT ?_ ?_); (focus (first | (simp [h5]; done) | (simp [h5]; omega) | (simp only [h5]; simp; done)))) | (refine n_brF ?_ ?_; (focus (first | (simp [h5]; done) | (simp [h5]; omega) | (simp only [h5]; simp; done)))) | refine n_must (by (with_reducible refine and_shape ?_) <;> kernel_rfl) ?_); (refine gs ?_)))
        generalize searchF L = SF
        refine n_loop (σ := Nat × List Pa) (fun t => [(0, .raw (.slice o L.length cap)), (3, .raw (.slice (some ⟨gx, 0, none⟩) (L.length + 1) cx')), (8, .int .i64 (t.1 : Nat))]) (fun t => [⟨55, [.res (paRow (some ⟨gx, 0, none⟩, cx') t.2)], true⟩, ⟨3, [.res (oRes (yo, yc) SF.1)], true⟩, ⟨3, [.res (oRes (zo, zc) SF.1)], true⟩]) (fun t => t.1 ≤ L.length ∧ t.2.length = L.length + 1 ∧ ∀ p ∈ t.2, p.good) (fun t => L.length - t.1) (0, L ++ [paMark]) mixed ⟨by simp, by simp, fun p hp => by
            rcases List.mem_append.1 hp with hp | hp
            · exact hg p hp
            · simp at hp; subst hp; exact paMark_good⟩ (fun _ _ => rfl) rfl (by (repeat (first | exact trivial | refine ⟨⟨rfl, rfl⟩, ?_⟩))) (fun s _ => ⟨by (repeat (first | exact trivial | refine ⟨⟨_, rfl⟩, ?_⟩)), by (repeat (first | exact trivial | refine ⟨⟨_, rfl⟩, ?_⟩))⟩) fun t ht => ?_
        obtain ⟨i, W⟩ := t
        obtain ⟨hi, hW, hgW⟩ := ht
        dsimp only at hi hW hgW ⊢
        (refine gs ?_)
        by_cases hil : i < L.length
        · have ei : IntKind.i64.wrap ((i : Int) + 1) = ((i + 1 : Nat) : Int) := by rw [w64 (by omega) (by omega)]; simp
          have eq : IntKind.i64.wrap (IntKind.i64.wrap ((L.length : Int) - 1) - (i : Int)) = ((L.length - 1 - i : Nat) : Int) := by rw [w64 (n := (L.length : Int) - 1) (by omega) (by omega), w64 (by omega) (by omega)]; omega
          have hx : W[i]? = some W[i] := List.getElem?_eq_getElem _
          have hgp := hgW W[i] (List.getElem_mem _)
          generalize W[i] = p at hx hgp
          have hfl : (W.flatMap Pa.l).length = W.length * 10 := flat_len pa_len W
          refine gw ?_
          refine n_storeRow (g := gx) (off := i * 10 + 6) (k := 1) (rv := .int .i64 0) (v := .int .i64 0) 0 ((W.set i { p with fr := 0 }).flatMap Pa.l) rfl rfl rfl ((addT ⟨gx, 0, none⟩ i 10 6).trans (add_mk _ _)) rfl rfl sizeI17 rfl rfl rfl (by omega) (flat_set1 pa_len hx (by omega) rfl) ?_
          (refine gs ?_)
          refine gw ?_
          rw [eq]
          have hW1 : (W.set i { p with fr := 0 }).length = W.length := by simp
          have hx1 : (W.set i { p with fr := 0 })[i]? = some { p with fr := 0 } := by rw [List.getElem?_set_self (by omega)]
          have hg1 : ∀ q ∈ W.set i { p with fr := 0 }, q.good := fun q hq => by
            rcases List.mem_or_eq_of_mem_set hq with h | rfl
            · exact hgW q h
            · exact ⟨hgp.se, hgp.id, hgp.nm, hgp.a, hgp.va⟩
          rw [← hW1]
          generalize W.set i { p with fr := 0 } = W1 at hW1 hx1 hg1
          have hy : W1[L.length - 1 - i]? = some W1[L.length - 1 - i] := List.getElem?_eq_getElem _
          generalize W1[L.length - 1 - i] = q at hy
          have hfl1 : (W1.flatMap Pa.l).length = W1.length * 10 := flat_len pa_len W1
          refine gw ?_
          (first | (refine n_ldI (.int .i64 q.to) rfl rfl (fun _ w1 _ hI1 => load_cell aggInt (row_at pa_len (hI1.res 0 rfl rfl) hy (j := 7) (by omega) rfl (addT ⟨gx, 0, none⟩ (L.length - 1 - i) 10 7))) ?_; (refine gs ?_)) | (refine n_ldDI (.int .i64 q.to) rfl rfl (fun _ w1 _ hI1 => load_cell aggInt (row_at pa_len (hI1.res 0 rfl rfl) hy (j := 7) (by omega) rfl (addT ⟨gx, 0, none⟩ (L.length - 1 - i) 10 7))) ?_; (refine gs ?_)) | (refine n_ldRI (.int .i64 q.to) rfl (fun _ w1 _ hI1 => load_cell aggInt (row_at pa_len (hI1.res 0 rfl rfl) hy (j := 7) (by omega) rfl (addT ⟨gx, 0, none⟩ (L.length - 1 - i) 10 7))) ?_; (refine gs ?_)))
          refine gw ?_
          refine n_storeRow (g := gx) (off := i * 10 + 7) (k := 1) (rv := .int .i64 q.to) (v := .int .i64 q.to) 0 ((W1.set i { p with fr := 0, to := q.to }).flatMap Pa.l) rfl rfl rfl ((addT ⟨gx, 0, none⟩ i 10 7).trans (add_mk _ _)) rfl rfl sizeI17 rfl rfl rfl (by omega) (flat_set1 pa_len hx1 (by omega) rfl) ?_
          (refine gs ?_)
          refine gw ?_
          have hW2 : (W1.set i { p with fr := 0, to := q.to }).length = W1.length := by simp
          rw [← hW2]
          refine n_again ⟨(i + 1, W1.set i { p with fr := 0, to := q.to }), ⟨by dsimp only; omega, by dsimp only; omega, fun r hr => ?_⟩, by dsimp only; omega, (by (repeat (first | exact trivial | refine ⟨⟨rfl, rfl⟩, ?_⟩ | refine ⟨⟨rfl, congrArg (SV.int .i64) ei⟩, ?_⟩))), ⟨_, rfl⟩⟩
          rcases List.mem_or_eq_of_mem_set hr with h | rfl
          · exact hg1 r h
          · exact ⟨hgp.se, hgp.id, hgp.nm, hgp.a, hgp.va⟩
        obtain rfl : i = L.length := by omega
        refine gw ?_
        refine n_exit rfl ?_
        (refine gs ?_)
        refine gw ?_
        obtain ⟨M, z, rfl⟩ : ∃ M z, W = M ++ [z] := ⟨W.dropLast, W.getLast (by intro h; rw [h] at hW; simp at hW), (List.dropLast_concat_getLast _).symm⟩
        have hML : M.length = L.length := by simpa using hW
        have hgM : ∀ p ∈ M, p.good := fun p hp => hgW p (by simp [hp])
        have hxM : ∀ {w1}, (paRow (some ⟨gx, 0, none⟩, cx') (M ++ [z])).R w1 → (paRes (some ⟨gx, 0, none⟩) M).R w1 := fun h => rd_pre (ys := z.l) (by have := rd_of_row h; simpa using this)
        refine n_sliceHi (n := L.length) rfl rfl elemPast sizePast rfl rfl (by omega) ?_
        (refine gs ?_)
        refine gw ?_
        have hsl2 := searchF_len M
        refine n_callN (fun y : Option Addr × Nat => oRes y (searchF M).1) 3 (fun y => .tup [.raw (.slice y.1 (searchF M).1.length y.2), .int .i64 (searchF M).2]) (fun y => .tuple #[.slice y.1 (searchF M).1.length y.2, .int .i64 (searchF M).2]) (fun _ => True) rfl rfl rfl (fun _ => rfl) (fun w1 hI1 => by rw [← hML]; exact Search_ok (o := some ⟨gx, 0, none⟩) (L := M) cx' (hxM (hI1.res 0 rfl rfl)) (fun x hx => hI1.resLt 0 rfl rfl x (by first | exact hx | exact rd_inR hx | exact rd_inC hx)) (by omega) hgM) ?_
        rintro ⟨yo2, yc2⟩ _ hnew4
        (refine gs ?_)
        refine gw ?_
        refine n_sliceHi (n := L.length) rfl rfl elemPast sizePast rfl rfl (by omega) ?_
        (refine gs ?_)
        refine gw ?_
        refine n_appendN (nv := M.flatMap Pa.l) rfl rfl rfl elemPast hit hparts.1 hparts.2.1 hparts.2.2 rfl (by omega) rfl rfl (by rw [flat_len pa_len, hML]) (fun _ w1 _ hI1 => hxM (hI1.res 0 rfl rfl)) (one_pa M) (by omega) (by omega) ?_
        rintro ⟨ao, ac⟩ hac
        (refine gs ?_)
        refine gw ?_
        refine n_callN (fun y : Option Addr × Nat => oRes y (searchF M).1) 3 (fun y => .tup [.raw (.slice y.1 (searchF M).1.length y.2), .int .i64 (searchF M).2]) (fun y => .tuple #[.slice y.1 (searchF M).1.length y.2, .int .i64 (searchF M).2]) (fun _ => True) rfl rfl rfl (fun _ => rfl) (fun w1 hI1 => by rw [← hML]; exact rSearch_ok (o := ao) (L := M) ac (rd_of_row (hI1.res 4 rfl rfl)) (fun x hx => hI1.resLt 4 rfl rfl x (by first | exact hx | exact rd_inR hx | exact rd_inC hx)) (by omega)) ?_
        rintro ⟨zo2, zc2⟩ _ hnew5
        (refine gs ?_)
        refine gw ?_
        refine n_sameP (.bool true) rfl rfl rfl (fun _ w1 hp1 hI1 => same_ok (l := (searchF M).1) yc2 zc2 (rd_of_row (hI1.res 3 rfl rfl)) (fun x hx => hI1.resLt 3 rfl rfl x (by first | exact hx | exact rd_inR hx | exact rd_inC hx)) (rd_of_row (hI1.res 5 rfl rfl)) (fun x hx => hI1.resLt 5 rfl rfl x (by first | exact hx | exact rd_inR hx | exact rd_inC hx)) (by omega)) ?_; (refine gs ?_)
        refine gw ?_
        exact n_ret0 rfl rfl fun ids' w' hp hI' => ⟨rfl, hI'.frm⟩
    | false =>
      refine gw ?_
      refine n_callN (fun y : Option Addr × Nat => oRes y (searchF L).1) 3 (fun y => .tup [.raw (.slice y.1 (searchF L).1.length y.2), .int .i64 (searchF L).2]) (fun y => .tuple #[.slice y.1 (searchF L).1.length y.2, .int .i64 (searchF L).2]) (fun _ => True) rfl rfl rfl (fun _ => rfl) (fun w1 hI1 => rSearch_ok (o := o) (L := L) cap (hL1 _ hI1.frm) (hLlt1 _ hI1.frm) (by omega)) ?_
      rintro ⟨zo, zc⟩ _ hnew3
      (refine gs ?_)
      refine gw ?_
      refine n_sameP (.bool true) rfl rfl rfl (fun _ w1 hp1 hI1 => same_ok (l := (searchF L).1) yc zc (rd_of_row (hI1.res 1 rfl rfl)) (fun x hx => hI1.resLt 1 rfl rfl x (by first | exact hx | exact rd_inR hx | exact rd_inC hx)) (rd_of_row (hI1.res 2 rfl rfl)) (fun x hx => hI1.resLt 2 rfl rfl x (by first | exact hx | exact rd_inR hx | exact rd_inC hx)) (by omega)) ?_; (refine gs ?_)
      refine gw ?_
      refine n_sliceHi (n := L.length) rfl rfl elemPast sizePast rfl rfl (by omega) ?_
      (refine gs ?_)
      refine gw ?_
      refine n_sameP (.bool true) rfl rfl rfl (fun _ w1 hp1 hI1 => samePast_ok cx' cap (hxP (hI1.res 0 rfl rfl)) (fun x hx => hI1.resLt 0 rfl rfl x (by first | exact hx | exact rd_inR hx | exact rd_inC hx)) (hL1 _ hI1.frm) (hLlt1 _ hI1.frm) (fun x hx hm => by have h1 := hI1.res_new 0 rfl rfl rfl (by simp) x (by first | exact hx | exact rd_inR hx | exact rd_inC hx); have h2 := hlt x hm; exact absurd h2 (Nat.not_lt.2 h1)) (by omega)) ?_; (refine gs ?_)
      refine gw ?_
      (first | (refine n_ldI (.int .i64 (-77)) rfl rfl (fun _ w1 _ hI1 => load_cell aggInt (row_at pa_len (hI1.res 0 rfl rfl) (i := L.length) (x := paMark) (by simp) (j := 6) (by omega) rfl (addT ⟨gx, 0, none⟩ L.length 10 6))) ?_; (refine gs ?_)) | (refine n_ldDI (.int .i64 (-77)) rfl rfl (fun _ w1 _ hI1 => load_cell aggInt (row_at pa_len (hI1.res 0 rfl rfl) (i := L.length) (x := paMark) (by simp) (j := 6) (by omega) rfl (addT ⟨gx, 0, none⟩ L.length 10 6))) ?_; (refine gs ?_)) | (refine n_ldRI (.int .i64 (-77)) rfl (fun _ w1 _ hI1 => load_cell aggInt (row_at pa_len (hI1.res 0 rfl rfl) (i := L.length) (x := paMark) (by simp) (j := 6) (by omega) rfl (addT ⟨gx, 0, none⟩ L.length 10 6))) ?_; (refine gs ?_)))
      refine gw ?_
      have h5 : ¬ 5 < L.length ∨ 5 < L.length := by omega
      rcases h5 with h5 | h5
      rotate_left
      · (repeat ((first | refine n_must rfl ?_ | refine n_chk (drawF_ok (by decide +kernel)) ?_ | refine n_same rfl ?_ | ((first | refine n_must ?_ ?_ | refine n_brT ?_ ?_); (focus (first | (simp [h5]; done) | (simp [h5]; omega) | (simp only [h5]; simp; done)))) | (refine n_brF ?_ ?_; (focus (first | (simp [h5]; done) | (simp [h5]; omega) | (simp only [h5]; simp; done)))) | refine n_must (by (with_reducible refine and_shape ?_) <;> kernel_rfl) ?_); (refine gs ?_)))
        exact n_ret0 rfl rfl fun ids' w' hp hI' => ⟨rfl, hI'.frm⟩
      (repeat ((first | refine n_must rfl ?_ | refine n_chk (drawF_ok (by decide +kernel)) ?_ | refine n_same rfl ?_ | ((first | refine n_must ?_ ?_ | refine n_brT ?_ ?_); (focus (first | (simp [h5]; done) | (simp [h5]; omega) | (simp only [h5]; simp; done)))) | (refine n_brF ?_ ?_; (focus (first | (simp [h5]; done) | (simp [h5]; omega) | (simp only [h5]; simp; done)))) | refine n_must (by (with_reducible refine and_shape ?_) <;> kernel_rfl) ?_); (refine gs ?_)))
      generalize searchF L = SF
      refine n_loop (σ := Nat × List Pa) (fun t => [(0, .raw (.slice o L.length cap)), (3, .raw (.slice (some ⟨gx, 0, none⟩) (L.length + 1) cx')), (8, .int .i64 (t.1 : Nat))]) (fun t => [⟨55, [.res (paRow (some ⟨gx, 0, none⟩, cx') t.2)], true⟩, ⟨3, [.res (oRes (yo, yc) SF.1)], true⟩, ⟨3, [.res (oRes (zo, zc) SF.1)], true⟩]) (fun t => t.1 ≤ L.length ∧ t.2.length = L.length + 1 ∧ ∀ p ∈ t.2, p.good) (fun t => L.length - t.1) (0, L ++ [paMark]) mixed ⟨by simp, by simp, fun p hp => by
          rcases List.mem_append.1 hp with hp | hp
          · exact hg p hp
          · simp at hp; subst hp; exact paMark_good⟩ (fun _ _ => rfl) rfl (by (repeat (first | exact trivial | refine ⟨⟨rfl, rfl⟩, ?_⟩))) (fun s _ => ⟨by (repeat (first | exact trivial | refine ⟨⟨_, rfl⟩, ?_⟩)), by (repeat (first | exact trivial | refine ⟨⟨_, rfl⟩, ?_⟩))⟩) fun t ht => ?_
      obtain ⟨i, W⟩ := t
      obtain ⟨hi, hW, hgW⟩ := ht
      dsimp only at hi hW hgW ⊢
      (refine gs ?_)
      by_cases hil : i < L.length
      · have ei : IntKind.i64.wrap ((i : Int) + 1) = ((i + 1 : Nat) : Int) := by rw [w64 (by omega) (by omega)]; simp
        have eq : IntKind.i64.wrap (IntKind.i64.wrap ((L.length : Int) - 1) - (i : Int)) = ((L.length - 1 - i : Nat) : Int) := by rw [w64 (n := (L.length : Int) - 1) (by omega) (by omega), w64 (by omega) (by omega)]; omega
        have hx : W[i]? = some W[i] := List.getElem?_eq_getElem _
        have hgp := hgW W[i] (List.getElem_mem _)
        generalize W[i] = p at hx hgp
        have hfl : (W.flatMap Pa.l).length = W.length * 10 := flat_len pa_len W
        refine gw ?_
        refine n_storeRow (g := gx) (off := i * 10 + 6) (k := 1) (rv := .int .i64 0) (v := .int .i64 0) 0 ((W.set i { p with fr := 0 }).flatMap Pa.l) rfl rfl rfl ((addT ⟨gx, 0, none⟩ i 10 6).trans (add_mk _ _)) rfl rfl sizeI17 rfl rfl rfl (by omega) (flat_set1 pa_len hx (by omega) rfl) ?_
        (refine gs ?_)
        refine gw ?_
        rw [eq]
        have hW1 : (W.set i { p with fr := 0 }).length = W.length := by simp
        have hx1 : (W.set i { p with fr := 0 })[i]? = some { p with fr := 0 } := by rw [List.getElem?_set_self (by omega)]
        have hg1 : ∀ q ∈ W.set i { p with fr := 0 }, q.good := fun q hq => by
          rcases List.mem_or_eq_of_mem_set hq with h | rfl
          · exact hgW q h
          · exact ⟨hgp.se, hgp.id, hgp.nm, hgp.a, hgp.va⟩
        rw [← hW1]
        generalize W.set i { p with fr := 0 } = W1 at hW1 hx1 hg1
        have hy : W1[L.length - 1 - i]? = some W1[L.length - 1 - i] := List.getElem?_eq_getElem _
        generalize W1[L.length - 1 - i] = q at hy
        have hfl1 : (W1.flatMap Pa.l).length = W1.length * 10 := flat_len pa_len W1
        refine gw ?_
        (first | (refine n_ldI (.int .i64 q.to) rfl rfl (fun _ w1 _ hI1 => load_cell aggInt (row_at pa_len (hI1.res 0 rfl rfl) hy (j := 7) (by omega) rfl (addT ⟨gx, 0, none⟩ (L.length - 1 - i) 10 7))) ?_; (refine gs ?_)) | (refine n_ldDI (.int .i64 q.to) rfl rfl (fun _ w1 _ hI1 => load_cell aggInt (row_at pa_len (hI1.res 0 rfl rfl) hy (j := 7) (by omega) rfl (addT ⟨gx, 0, none⟩ (L.length - 1 - i) 10 7))) ?_; (refine gs ?_)) | (refine n_ldRI (.int .i64 q.to) rfl (fun _ w1 _ hI1 => load_cell aggInt (row_at pa_len (hI1.res 0 rfl rfl) hy (j := 7) (by omega) rfl (addT ⟨gx, 0, none⟩ (L.length - 1 - i) 10 7))) ?_; (refine gs ?_)))
        refine gw ?_
        refine n_storeRow (g := gx) (off := i * 10 + 7) (k := 1) (rv := .int .i64 q.to) (v := .int .i64 q.to) 0 ((W1.set i { p with fr := 0, to := q.to }).flatMap Pa.l) rfl rfl rfl ((addT ⟨gx, 0, none⟩ i 10 7).trans (add_mk _ _)) rfl rfl sizeI17 rfl rfl rfl (by omega) (flat_set1 pa_len hx1 (by omega) rfl) ?_
        (refine gs ?_)
        refine gw ?_
        have hW2 : (W1.set i { p with fr := 0, to := q.to }).length = W1.length := by simp
        rw [← hW2]
        refine n_again ⟨(i + 1, W1.set i { p with fr := 0, to := q.to }), ⟨by dsimp only; omega, by dsimp only; omega, fun r hr => ?_⟩, by dsimp only; omega, (by (repeat (first | exact trivial | refine ⟨⟨rfl, rfl⟩, ?_⟩ | refine ⟨⟨rfl, congrArg (SV.int .i64) ei⟩, ?_⟩))), ⟨_, rfl⟩⟩
        rcases List.mem_or_eq_of_mem_set hr with h | rfl
        · exact hg1 r h
        · exact ⟨hgp.se, hgp.id, hgp.nm, hgp.a, hgp.va⟩
      obtain rfl : i = L.length := by omega
      refine gw ?_
      refine n_exit rfl ?_
      (refine gs ?_)
      refine gw ?_
      obtain ⟨M, z, rfl⟩ : ∃ M z, W = M ++ [z] := ⟨W.dropLast, W.getLast (by intro h; rw [h] at hW; simp at hW), (List.dropLast_concat_getLast _).symm⟩
      have hML : M.length = L.length := by simpa using hW
      have hgM : ∀ p ∈ M, p.good := fun p hp => hgW p (by simp [hp])
      have hxM : ∀ {w1}, (paRow (some ⟨gx, 0, none⟩, cx') (M ++ [z])).R w1 → (paRes (some ⟨gx, 0, none⟩) M).R w1 := fun h => rd_pre (ys := z.l) (by have := rd_of_row h; simpa using this)
      refine n_sliceHi (n := L.length) rfl rfl elemPast sizePast rfl rfl (by omega) ?_
      (refine gs ?_)
      refine gw ?_
      have hsl2 := searchF_len M
      refine n_callN (fun y : Option Addr × Nat => oRes y (searchF M).1) 3 (fun y => .tup [.raw (.slice y.1 (searchF M).1.length y.2), .int .i64 (searchF M).2]) (fun y => .tuple #[.slice y.1 (searchF M).1.length y.2, .int .i64 (searchF M).2]) (fun _ => True) rfl rfl rfl (fun _ => rfl) (fun w1 hI1 => by rw [← hML]; exact Search_ok (o := some ⟨gx, 0, none⟩) (L := M) cx' (hxM (hI1.res 0 rfl rfl)) (fun x hx => hI1.resLt 0 rfl rfl x (by first | exact hx | exact rd_inR hx | exact rd_inC hx)) (by omega) hgM) ?_
      rintro ⟨yo2, yc2⟩ _ hnew4
      (refine gs ?_)
      refine gw ?_
      refine n_sliceHi (n := L.length) rfl rfl elemPast sizePast rfl rfl (by omega) ?_
      (refine gs ?_)
      refine gw ?_
      refine n_appendN (nv := M.flatMap Pa.l) rfl rfl rfl elemPast hit hparts.1 hparts.2.1 hparts.2.2 rfl (by omega) rfl rfl (by rw [flat_len pa_len, hML]) (fun _ w1 _ hI1 => hxM (hI1.res 0 rfl rfl)) (one_pa M) (by omega) (by omega) ?_
      rintro ⟨ao, ac⟩ hac
      (refine gs ?_)
      refine gw ?_
      refine n_callN (fun y : Option Addr × Nat => oRes y (searchF M).1) 3 (fun y => .tup [.raw (.slice y.1 (searchF M).1.length y.2), .int .i64 (searchF M).2]) (fun y => .tuple #[.slice y.1 (searchF M).1.length y.2, .int .i64 (searchF M).2]) (fun _ => True) rfl rfl rfl (fun _ => rfl) (fun w1 hI1 => by rw [← hML]; exact rSearch_ok (o := ao) (L := M) ac (rd_of_row (hI1.res 4 rfl rfl)) (fun x hx => hI1.resLt 4 rfl rfl x (by first | exact hx | exact rd_inR hx | exact rd_inC hx)) (by omega)) ?_
      rintro ⟨zo2, zc2⟩ _ hnew5
      (refine gs ?_)
      refine gw ?_
      refine n_sameP (.bool true) rfl rfl rfl (fun _ w1 hp1 hI1 => same_ok (l := (searchF M).1) yc2 zc2 (rd_of_row (hI1.res 3 rfl rfl)) (fun x hx => hI1.resLt 3 rfl rfl x (by first | exact hx | exact rd_inR hx | exact rd_inC hx)) (rd_of_row (hI1.res 5 rfl rfl)) (fun x hx => hI1.resLt 5 rfl rfl x (by first | exact hx | exact rd_inR hx | exact rd_inC hx)) (by omega)) ?_; (refine gs ?_)
      refine gw ?_
      exact n_ret0 rfl rfl fun ids' w' hp hI' => ⟨rfl, hI'.frm⟩
  · (repeat ((first | refine n_must rfl ?_ | refine n_chk (drawF_ok (by decide +kernel)) ?_ | refine n_same rfl ?_ | ((first | refine n_must ?_ ?_ | refine n_brT ?_ ?_); (focus (first | (simp [hN]; done) | (simp [hN]; omega) | (simp only [hN]; simp; done)))) | (refine n_brF ?_ ?_; (focus (first | (simp [hN]; done) | (simp [hN]; omega) | (simp only [hN]; simp; done)))) | refine n_must (by (with_reducible refine and_shape ?_) <;> kernel_rfl) ?_); (refine gs ?_)))
    refine n_callN (fun y : Option Addr × Nat => oRes y (searchF L).1) 3 (fun y => .tup [.raw (.slice y.1 (searchF L).1.length y.2), .int .i64 (searchF L).2]) (fun y => .tuple #[.slice y.1 (searchF L).1.length y.2, .int .i64 (searchF L).2]) (fun _ => True) rfl rfl rfl (fun _ => rfl) (fun w1 hI1 => rSearch_ok (o := o) (L := L) cap (hL1 _ hI1.frm) (hLlt1 _ hI1.frm) (by omega)) ?_
    rintro ⟨zo, zc⟩ _ hnew3
    (refine gs ?_)
    refine gw ?_
    refine n_sameP (.bool true) rfl rfl rfl (fun _ w1 hp1 hI1 => same_ok (l := (searchF L).1) yc zc (rd_of_row (hI1.res 1 rfl rfl)) (fun x hx => hI1.resLt 1 rfl rfl x (by first | exact hx | exact rd_inR hx | exact rd_inC hx)) (rd_of_row (hI1.res 2 rfl rfl)) (fun x hx => hI1.resLt 2 rfl rfl x (by first | exact hx | exact rd_inR hx | exact rd_inC hx)) (by omega)) ?_; (refine gs ?_)
    refine gw ?_
    refine n_sliceHi (n := L.length) rfl rfl elemPast sizePast rfl rfl (by omega) ?_
    (refine gs ?_)
    refine gw ?_
    refine n_sameP (.bool true) rfl rfl rfl (fun _ w1 hp1 hI1 => samePast_ok cx' cap (hxP (hI1.res 0 rfl rfl)) (fun x hx => hI1.resLt 0 rfl rfl x (by first | exact hx | exact rd_inR hx | exact rd_inC hx)) (hL1 _ hI1.frm) (hLlt1 _ hI1.frm) (fun x hx hm => by have h1 := hI1.res_new 0 rfl rfl rfl (by simp) x (by first | exact hx | exact rd_inR hx | exact rd_inC hx); have h2 := hlt x hm; exact absurd h2 (Nat.not_lt.2 h1)) (by omega)) ?_; (refine gs ?_)
    refine gw ?_
    (first | (refine n_ldI (.int .i64 (-77)) rfl rfl (fun _ w1 _ hI1 => load_cell aggInt (row_at pa_len (hI1.res 0 rfl rfl) (i := L.length) (x := paMark) (by simp) (j := 6) (by omega) rfl (addT ⟨gx, 0, none⟩ L.length 10 6))) ?_; (refine gs ?_)) | (refine n_ldDI (.int .i64 (-77)) rfl rfl (fun _ w1 _ hI1 => load_cell aggInt (row_at pa_len (hI1.res 0 rfl rfl) (i := L.length) (x := paMark) (by simp) (j := 6) (by omega) rfl (addT ⟨gx, 0, none⟩ L.length 10 6))) ?_; (refine gs ?_)) | (refine n_ldRI (.int .i64 (-77)) rfl (fun _ w1 _ hI1 => load_cell aggInt (row_at pa_len (hI1.res 0 rfl rfl) (i := L.length) (x := paMark) (by simp) (j := 6) (by omega) rfl (addT ⟨gx, 0, none⟩ L.length 10 6))) ?_; (refine gs ?_)))
    refine gw ?_
    have h5 : 5 < L.length := by omega
    (repeat ((first | refine n_must rfl ?_ | refine n_chk (drawF_ok (by decide +kernel)) ?_ | refine n_same rfl ?_ | ((first | refine n_must ?_ ?_ | refine n_brT ?_ ?_); (focus (first | (simp [h5]; done) | (simp [h5]; omega) | (simp only [h5]; simp; done)))) | (refine n_brF ?_ ?_; (focus (first | (simp [h5]; done) | (simp [h5]; omega) | (simp only [h5]; simp; done)))) | refine n_must (by (with_reducible refine and_shape ?_) <;> kernel_rfl) ?_); (refine gs ?_)))
    exact n_ret0 rfl rfl fun ids' w' hp hI' => ⟨rfl, hI'.frm⟩
theorem CheckSearches_ok {o : Option Addr} {L : List Pa} {w : World} (cap : Nat) (hR : (paRes o L).R w) (hlt : ∀ x ∈ (paRes o L).fp, x < w.heap.size) (hl : L.length ≤ 1599289640390) (hg : ∀ p ∈ L, p.good) :
    Calls Try.prog 4 #[.slice o L.length cap] w fun x w' => x = .returned (.bool true) ∧ Frm [] w w' := by
  have hI := Inv.nil (P := Try.prog) (N := 8) (S := []) (os := []) w
  have hL1 : ∀ w1, Frm [] w w1 → (paRes o L).R w1 := fun w1 hf => (paRes o L).stable _ _ (fun k hk => hf.block k (hlt k hk) (by simp)) hR
  have hLlt1 : ∀ w1, Frm [] w w1 → ∀ x ∈ (paRes o L).fp, x < w1.heap.size := fun w1 hf x hx => Nat.lt_of_lt_of_le (hlt x hx) hf.size
  refine calls_sm (cx 8 [] [] w) (vals := [.raw (.slice o L.length cap)]) mixed Try.func4 rfl rfl rfl hI rfl (st rfl ?_); conv => arg 3; whnf
  refine gg ?_
  refine n_sameP (.bool true) rfl rfl rfl (fun _ w1 hp1 hI1 => able_ok w1) ?_; (refine gs ?_)
  refine gw ?_
  refine n_sameP (.bool true) rfl rfl rfl (fun _ w1 hp1 hI1 => searches_ok cap (hL1 _ hI1.frm) (hLlt1 _ hI1.frm) hl hg) ?_; (refine gs ?_)
  refine gw ?_
  exact n_ret0 rfl rfl fun ids' w' hp hI' => ⟨rfl, hI'.frm⟩
end
end Go.Proofs.Ytfcbcgjgkleonaa
