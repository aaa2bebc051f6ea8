/- Chapter 17's law: many, order. -/
import Derived.Test.YtfcbcgjgkleonaaBnM
set_option maxRecDepth 100000
set_option linter.unusedSimpArgs false
set_option linter.unusedVariables false
set_option maxHeartbeats 16000000
namespace Go.Proofs.Ytfcbcgjgkleonaa
open Go.RowKit

def manyF (L : List Pa) : Nat := L.countP standB
theorem many_next {L : List Pa} {i : Nat} {p : Pa} (h : L[i]? = some p) : manyF (L.take (i + 1)) = manyF (L.take i) + (if standB p then 1 else 0) := by
  unfold manyF
  rw [take_next h, List.countP_append]
  simp [List.countP_cons]
theorem many_le (L : List Pa) : manyF L ≤ L.length := List.countP_le_length
theorem many_ok {o : Option Addr} {L : List Pa} {w : World} (cap : Nat) (hR : (paRes o L).R w) (hlt : ∀ x ∈ (paRes o L).fp, x < w.heap.size) (hl : L.length ≤ 9223372036854775806) :
    Calls Try.prog 27 #[.slice o L.length cap] w fun e w' => e = .returned (.int .i64 (manyF L)) ∧ Frm [] w w' := by
  have hI : Inv (cx 42 [] [] w) w [0] [⟨55, [.res (paRes o L)], false⟩] := (Inv.nil w).consR (by simp) hR hlt (by simp)
  refine calls_sm (cx 42 [] [] w) (vals := [.raw (.slice o L.length cap)]) mixed Try.func27 rfl rfl rfl hI rfl (st rfl ?_); conv => arg 3; whnf
  refine gg ?_
  refine n_loop (σ := Nat) (fun i => [(0, .raw (.slice o L.length cap)), (3, .int .i64 (manyF (L.take i) : Nat)), (4, .int .i64 (i : Nat))]) (fun _ => [⟨55, [.res (paRes o L)], false⟩]) (fun i => i ≤ L.length) (fun i => L.length - i) 0 mixed (by omega) (fun _ _ => rfl) rfl (by (repeat (first | exact trivial | refine ⟨⟨rfl, rfl⟩, ?_⟩))) (fun s _ => ⟨by (repeat (first | exact trivial | refine ⟨⟨_, rfl⟩, ?_⟩)), by (repeat (first | exact trivial | refine ⟨⟨_, rfl⟩, ?_⟩))⟩) fun i hi => ?_
  (refine gs ?_)
  by_cases hlt2 : i < L.length
  · have ei : IntKind.i64.wrap ((i : Int) + 1) = ((i + 1 : Nat) : Int) := by rw [w64 (by omega) (by omega)]; simp
    obtain ⟨ad, rfl⟩ := rd_some pa_len (by omega) hR (by omega)
    have hx : L[i]? = some L[i] := List.getElem?_eq_getElem _
    generalize L[i] = p at hx
    have hnx := many_next hx
    have hml : manyF (L.take i) ≤ i := by have := many_le (L.take i); rw [List.length_take] at this; omega
    generalize manyF (L.take i) = M at hnx hml
    have eM : IntKind.i64.wrap ((M : Int) + 1) = ((M + 1 : Nat) : Int) := by rw [w64 (by omega) (by omega)]; simp
    refine gw ?_
    (refine n_ldA (.agg p.sv) rfl (by first | exact trivial | rfl) rfl (fun _ w1 _ hI1 => pa_row (hI1.res 0 rfl rfl) hx rfl) ?_; (refine gs ?_))
    refine gw ?_
    refine n_sameP (.int .i64 (sortF p)) rfl rfl rfl (fun _ w1 hp1 hI1 => rSort_ok p w1) ?_; (refine gs ?_)
    by_cases s2 : sortF p = 2
    · have e : standB p = true := by simp [standB, s2]
      rw [e, if_pos rfl] at hnx
      (repeat ((first | refine n_must rfl ?_ | refine n_chk (drawF_ok (by decide +kernel)) ?_ | refine n_same rfl ?_ | ((first | refine n_must ?_ ?_ | refine n_brT ?_ ?_); (focus (first | (simp [s2]; done) | (simp [s2]; omega) | (simp only [s2]; simp; done)))) | (refine n_brF ?_ ?_; (focus (first | (simp [s2]; done) | (simp [s2]; omega) | (simp only [s2]; simp; done)))) | refine n_must (by (with_reducible refine and_shape ?_) <;> kernel_rfl) ?_); (refine gs ?_)))
      refine n_again ⟨i + 1, by omega, by omega, by rw [hnx]; exact (by (repeat (first | exact trivial | refine ⟨⟨rfl, rfl⟩, ?_⟩ | refine ⟨⟨rfl, congrArg (SV.int .i64) ei⟩, ?_⟩ | refine ⟨⟨rfl, congrArg (SV.int .i64) eM⟩, ?_⟩))), ⟨_, rfl⟩⟩
    by_cases s1 : sortF p = 1
    · by_cases ht : p.to = -1
      · have e : standB p = true := by simp [standB, s1, openF, ht]
        rw [e, if_pos rfl] at hnx
        (repeat ((first | refine n_must rfl ?_ | refine n_chk (drawF_ok (by decide +kernel)) ?_ | refine n_same rfl ?_ | ((first | refine n_must ?_ ?_ | refine n_brT ?_ ?_); (focus (first | (simp [s1, ht]; done) | (simp [s1, ht]; omega) | (simp only [s1, ht]; simp; done)))) | (refine n_brF ?_ ?_; (focus (first | (simp [s1, ht]; done) | (simp [s1, ht]; omega) | (simp only [s1, ht]; simp; done)))) | refine n_must (by (with_reducible refine and_shape ?_) <;> kernel_rfl) ?_); (refine gs ?_)))
        (repeat ((first | (refine n_ldA (.int .i64 p.to) rfl (by first | exact trivial | rfl) rfl (fun _ w1 _ hI1 => load_cell aggInt (pa_cell (hI1.res 0 rfl rfl) hx 7 rfl (addT ad i 10 7))) ?_; (refine gs ?_)) | (refine n_ldA (.int .i64 p.er) rfl (by first | exact trivial | rfl) rfl (fun _ w1 _ hI1 => load_cell aggErr (pa_cell (hI1.res 0 rfl rfl) hx 8 rfl (addT ad i 10 8))) ?_; (refine gs ?_))); (repeat ((first | refine n_must rfl ?_ | refine n_chk (drawF_ok (by decide +kernel)) ?_ | refine n_same rfl ?_ | ((first | refine n_must ?_ ?_ | refine n_brT ?_ ?_); (focus (first | (simp [s1, ht]; done) | (simp [s1, ht]; omega) | (simp only [s1, ht]; simp; done)))) | (refine n_brF ?_ ?_; (focus (first | (simp [s1, ht]; done) | (simp [s1, ht]; omega) | (simp only [s1, ht]; simp; done)))) | refine n_must (by (with_reducible refine and_shape ?_) <;> kernel_rfl) ?_); (refine gs ?_)))))
        refine n_again ⟨i + 1, by omega, by omega, by rw [hnx]; exact (by (repeat (first | exact trivial | refine ⟨⟨rfl, rfl⟩, ?_⟩ | refine ⟨⟨rfl, congrArg (SV.int .i64) ei⟩, ?_⟩ | refine ⟨⟨rfl, congrArg (SV.int .i64) eM⟩, ?_⟩))), ⟨_, rfl⟩⟩
      by_cases he : p.er = 111
      · have e : standB p = true := by simp [standB, s1, openF, he]
        rw [e, if_pos rfl] at hnx
        (repeat ((first | refine n_must rfl ?_ | refine n_chk (drawF_ok (by decide +kernel)) ?_ | refine n_same rfl ?_ | ((first | refine n_must ?_ ?_ | refine n_brT ?_ ?_); (focus (first | (simp [s1, ht, he]; done) | (simp [s1, ht, he]; omega) | (simp only [s1, ht, he]; simp; done)))) | (refine n_brF ?_ ?_; (focus (first | (simp [s1, ht, he]; done) | (simp [s1, ht, he]; omega) | (simp only [s1, ht, he]; simp; done)))) | refine n_must (by (with_reducible refine and_shape ?_) <;> kernel_rfl) ?_); (refine gs ?_)))
        (repeat ((first | (refine n_ldA (.int .i64 p.to) rfl (by first | exact trivial | rfl) rfl (fun _ w1 _ hI1 => load_cell aggInt (pa_cell (hI1.res 0 rfl rfl) hx 7 rfl (addT ad i 10 7))) ?_; (refine gs ?_)) | (refine n_ldA (.int .i64 p.er) rfl (by first | exact trivial | rfl) rfl (fun _ w1 _ hI1 => load_cell aggErr (pa_cell (hI1.res 0 rfl rfl) hx 8 rfl (addT ad i 10 8))) ?_; (refine gs ?_))); (repeat ((first | refine n_must rfl ?_ | refine n_chk (drawF_ok (by decide +kernel)) ?_ | refine n_same rfl ?_ | ((first | refine n_must ?_ ?_ | refine n_brT ?_ ?_); (focus (first | (simp [s1, ht, he]; done) | (simp [s1, ht, he]; omega) | (simp only [s1, ht, he]; simp; done)))) | (refine n_brF ?_ ?_; (focus (first | (simp [s1, ht, he]; done) | (simp [s1, ht, he]; omega) | (simp only [s1, ht, he]; simp; done)))) | refine n_must (by (with_reducible refine and_shape ?_) <;> kernel_rfl) ?_); (refine gs ?_)))))
        refine n_again ⟨i + 1, by omega, by omega, by rw [hnx]; exact (by (repeat (first | exact trivial | refine ⟨⟨rfl, rfl⟩, ?_⟩ | refine ⟨⟨rfl, congrArg (SV.int .i64) ei⟩, ?_⟩ | refine ⟨⟨rfl, congrArg (SV.int .i64) eM⟩, ?_⟩))), ⟨_, rfl⟩⟩
      · have e : standB p = false := by simp [standB, s1, openF, he, ht]
        rw [e, if_neg (by simp), Nat.add_zero] at hnx
        (repeat ((first | refine n_must rfl ?_ | refine n_chk (drawF_ok (by decide +kernel)) ?_ | refine n_same rfl ?_ | ((first | refine n_must ?_ ?_ | refine n_brT ?_ ?_); (focus (first | (simp [s1, ht, he]; done) | (simp [s1, ht, he]; omega) | (simp only [s1, ht, he]; simp; done)))) | (refine n_brF ?_ ?_; (focus (first | (simp [s1, ht, he]; done) | (simp [s1, ht, he]; omega) | (simp only [s1, ht, he]; simp; done)))) | refine n_must (by (with_reducible refine and_shape ?_) <;> kernel_rfl) ?_); (refine gs ?_)))
        (repeat ((first | (refine n_ldA (.int .i64 p.to) rfl (by first | exact trivial | rfl) rfl (fun _ w1 _ hI1 => load_cell aggInt (pa_cell (hI1.res 0 rfl rfl) hx 7 rfl (addT ad i 10 7))) ?_; (refine gs ?_)) | (refine n_ldA (.int .i64 p.er) rfl (by first | exact trivial | rfl) rfl (fun _ w1 _ hI1 => load_cell aggErr (pa_cell (hI1.res 0 rfl rfl) hx 8 rfl (addT ad i 10 8))) ?_; (refine gs ?_))); (repeat ((first | refine n_must rfl ?_ | refine n_chk (drawF_ok (by decide +kernel)) ?_ | refine n_same rfl ?_ | ((first | refine n_must ?_ ?_ | refine n_brT ?_ ?_); (focus (first | (simp [s1, ht, he]; done) | (simp [s1, ht, he]; omega) | (simp only [s1, ht, he]; simp; done)))) | (refine n_brF ?_ ?_; (focus (first | (simp [s1, ht, he]; done) | (simp [s1, ht, he]; omega) | (simp only [s1, ht, he]; simp; done)))) | refine n_must (by (with_reducible refine and_shape ?_) <;> kernel_rfl) ?_); (refine gs ?_)))))
        refine n_again ⟨i + 1, by omega, by omega, by rw [hnx]; exact (by (repeat (first | exact trivial | refine ⟨⟨rfl, rfl⟩, ?_⟩ | refine ⟨⟨rfl, congrArg (SV.int .i64) ei⟩, ?_⟩))), ⟨_, rfl⟩⟩
    · have e : standB p = false := by simp [standB, s1, s2]
      rw [e, if_neg (by simp), Nat.add_zero] at hnx
      (repeat ((first | refine n_must rfl ?_ | refine n_chk (drawF_ok (by decide +kernel)) ?_ | refine n_same rfl ?_ | ((first | refine n_must ?_ ?_ | refine n_brT ?_ ?_); (focus (first | (simp [s1, s2]; done) | (simp [s1, s2]; omega) | (simp only [s1, s2]; simp; done)))) | (refine n_brF ?_ ?_; (focus (first | (simp [s1, s2]; done) | (simp [s1, s2]; omega) | (simp only [s1, s2]; simp; done)))) | refine n_must (by (with_reducible refine and_shape ?_) <;> kernel_rfl) ?_); (refine gs ?_)))
      refine n_again ⟨i + 1, by omega, by omega, by rw [hnx]; exact (by (repeat (first | exact trivial | refine ⟨⟨rfl, rfl⟩, ?_⟩ | refine ⟨⟨rfl, congrArg (SV.int .i64) ei⟩, ?_⟩))), ⟨_, rfl⟩⟩
  · obtain rfl : i = L.length := by omega
    rw [List.take_length]
    refine gw ?_
    refine n_exit rfl ?_
    (refine gs ?_)
    refine gw ?_
    exact n_ret0 rfl rfl fun ids' w' hp hI' => ⟨rfl, hI'.frm⟩
theorem order_ok {S : Srch} {o : Option Addr} {ol : Option Addr} {l : List Int} {w : World} (cap capl : Nat) (hN : S.n ≤ 12) (hR : (paRes o S.L).R w) (hlt : ∀ x ∈ (paRes o S.L).fp, x < w.heap.size) (hl : (readRes ol (ints l)).R w) (hllt : ∀ x ∈ (readRes ol (ints l)).fp, x < w.heap.size) (hll : l.length ≤ 100) :
    Calls Try.prog 19 #[.slice o S.n cap, .slice ol l.length capl] w fun e w' => e = .returned (.bool (ordG S (numR S.L) l 0 [])) ∧ Frm [] w w' := by
  obtain ⟨itb, hitb, hpb⟩ := Option.map_eq_some_iff.1 infoBool
  simp only [Prod.mk.injEq] at hpb
  have hI : Inv (cx 158 [(22, .of [(0, []), (1, []), (2, []), (3, []), (4, []), (5, [2]), (6, []), (7, []), (8, []), (9, []), (10, []), (11, [])])] [] w) w [0] [⟨55, [.res (paRes o S.L)], false⟩] := (Inv.nil w).consR (by simp) hR hlt (by simp)
  have hl1 : ∀ w1, Frm [] w w1 → (readRes ol (ints l)).R w1 := fun w1 hf => (readRes ol (ints l)).stable _ _ (fun k hk => hf.block k (hllt k hk) (by simp)) hl
  refine calls_sm (cx 158 [(22, .of [(0, []), (1, []), (2, []), (3, []), (4, []), (5, [2]), (6, []), (7, []), (8, []), (9, []), (10, []), (11, [])])] [] w) (vals := [.raw (.slice o S.n cap), .raw (.slice ol l.length capl)]) mixed Try.func19 rfl rfl rfl hI rfl (st rfl ?_); conv => arg 3; whnf
  refine gg ?_
  refine n_callN (fun y : Nat => rmaRes y (none, 0) [] G0) 111 (fun y => .raw (pV y)) (fun y => pV y) (fun _ => True) rfl rfl rfl (fun _ => rfl) (fun w1 hI1 => rmNewA_ok w1) ?_
  intro q0 _ hnew
  (refine gs ?_)
  refine gw ?_
  refine n_makeSlice (n := S.n) 4 rfl rfl rfl Try.underlying95 hitb hpb.1 (by rw [hpb.2.1]; rfl) hpb.2.2 rfl rfl (by omega) (by omega) fun g hg => ?_
  rw [in_zero]
  (refine gs ?_)
  refine gw ?_
  generalize hB : ordG S (numR S.L) l 0 [] = B
  refine n_loop (σ := Nat × Nat × (Option Addr × Nat) × List Rc × List Rw) (fun t => [(0, .raw (.slice o S.n cap)), (1, .raw (.slice ol l.length capl)), (5, .raw (pV q0)), (6, .raw (.slice (some ⟨g, 0, none⟩) S.n S.n)), (7, .int .i64 (t.1 : Nat))]) (fun t => [⟨55, [.res (paRes o S.L)], false⟩, ⟨111, [.res (rmaRes q0 t.2.2.1 t.2.2.2.1 t.2.2.2.2)], true⟩, ⟨4, [.res (inR g S.n t.2.1)], true⟩]) (fun t => t.1 ≤ l.length ∧ ordG S (numR S.L) (l.drop t.1) t.2.1 (ks t.2.2.2.1) = B ∧ AllIn t.2.2.2.2 t.2.2.2.1 ∧ NilG t.2.2.2.2 ∧ FitN t.1 (ks t.2.2.2.1)) (fun t => l.length - t.1) (0, 0, (none, 0), [], G0) mixed ⟨by simp, hB, fun c hc => by simp at hc, G0_nil, FitN.nil 0⟩ (fun _ _ => rfl) rfl (by (repeat (first | exact trivial | refine ⟨⟨rfl, rfl⟩, ?_⟩))) (fun s _ => ⟨by (repeat (first | exact trivial | refine ⟨⟨_, rfl⟩, ?_⟩)), by (repeat (first | exact trivial | refine ⟨⟨_, rfl⟩, ?_⟩))⟩) fun t ht => ?_
  obtain ⟨j, sd, y, A, G⟩ := t
  obtain ⟨hj, hO, hin, hng, hfit⟩ := ht
  dsimp only at hj hO hin hng hfit ⊢
  (refine gs ?_)
  by_cases hjl : j < l.length
  · have ej : IntKind.i64.wrap ((j : Int) + 1) = ((j + 1 : Nat) : Int) := by rw [w64 (by omega) (by omega)]; simp
    have hx : l[j]? = some l[j] := List.getElem?_eq_getElem _
    have hd : l.drop j = l[j] :: l.drop (j + 1) := List.drop_eq_getElem_cons hjl
    have hlen : (l.drop (j + 1)).length = l.length - (j + 1) := List.length_drop
    obtain ⟨al, rfl⟩ : ∃ a, ol = some a := by obtain ⟨a, ha, _⟩ := hl j _ (by rw [List.getElem?_map, hx]; rfl); exact ⟨a, ha⟩
    rw [hd, ordG] at hO
    generalize l[j] = x at hx hO
    generalize l.drop (j + 1) = r at hO hlen hd
    refine gw ?_
    have hcell : ∀ {w1 : World}, Frm [] w w1 → ∀ ad, ad = al.add (j * 1) → w1.cell? ad = some (.int .i64 x) := fun hf ad had => by
      obtain ⟨a', e, hc⟩ := hl1 _ hf j (.int .i64 x) (by simp [hx])
      simp at e; subst e
      rw [had, Nat.mul_one]; exact hc
    (refine n_ldA (.int .i64 x) rfl (by first | exact trivial | rfl) rfl (fun _ w1 _ hI1 => load_cell aggInt (hcell hI1.frm _ rfl)) ?_; (refine gs ?_))
    refine gw ?_
    by_cases h0 : x < 0
    · (repeat ((first | refine n_must rfl ?_ | refine n_chk (drawF_ok (by decide +kernel)) ?_ | refine n_same rfl ?_ | ((first | refine n_must ?_ ?_ | refine n_brT ?_ ?_); (focus (first | (simp [h0]; done) | (simp [h0]; omega) | (simp only [h0]; simp; done)))) | (refine n_brF ?_ ?_; (focus (first | (simp [h0]; done) | (simp [h0]; omega) | (simp only [h0]; simp; done)))) | refine n_must (by (with_reducible refine and_shape ?_) <;> kernel_rfl) ?_); (refine gs ?_)))
      refine n_leave ?_
      rw [if_pos (.inl h0)] at hO
      rw [← hO]
      exact n_ret0 rfl rfl fun ids' w' hp hI' => ⟨rfl, hI'.frm⟩
    by_cases hn : (S.n : Int) ≤ x
    · (repeat ((first | refine n_must rfl ?_ | refine n_chk (drawF_ok (by decide +kernel)) ?_ | refine n_same rfl ?_ | ((first | refine n_must ?_ ?_ | refine n_brT ?_ ?_); (focus (first | (simp [h0, hn]; done) | (simp [h0, hn]; omega) | (simp only [h0, hn]; simp; done)))) | (refine n_brF ?_ ?_; (focus (first | (simp [h0, hn]; done) | (simp [h0, hn]; omega) | (simp only [h0, hn]; simp; done)))) | refine n_must (by (with_reducible refine and_shape ?_) <;> kernel_rfl) ?_); (refine gs ?_)))
      refine n_leave ?_
      rw [if_pos (.inr (.inl hn))] at hO
      rw [← hO]
      exact n_ret0 rfl rfl fun ids' w' hp hI' => ⟨rfl, hI'.frm⟩
    obtain ⟨i, rfl⟩ : ∃ i : Nat, x = (i : Int) := ⟨x.toNat, by omega⟩
    have hil : i < S.n := by omega
    have hbi := in_at (st := sd) hil
    have hin0 : ¬ (S.n : Int) ≤ (i : Int) := by omega
    rw [Int.toNat_natCast] at hO
    (repeat ((first | refine n_must rfl ?_ | refine n_chk (drawF_ok (by decide +kernel)) ?_ | refine n_same rfl ?_ | ((first | refine n_must ?_ ?_ | refine n_brT ?_ ?_); (focus (first | (simp [hin0]; done) | (simp [hin0]; omega) | (simp only [hin0]; simp; done)))) | (refine n_brF ?_ ?_; (focus (first | (simp [hin0]; done) | (simp [hin0]; omega) | (simp only [hin0]; simp; done)))) | refine n_must (by (with_reducible refine and_shape ?_) <;> kernel_rfl) ?_); (refine gs ?_)))
    (refine n_ldA (.bool (sd.testBit i)) rfl (by first | exact trivial | rfl) rfl (fun _ w1 _ hI1 => load_cell aggBool (cellsRes_at (hI1.res 2 rfl rfl) hbi (by simp))) ?_; (refine gs ?_))
    cases hbit : sd.testBit i with
    | true =>
      refine gw ?_
      refine n_leave ?_
      rw [if_pos (.inr (.inr (.inl hbit)))] at hO
      rw [← hO]
      exact n_ret0 rfl rfl fun ids' w' hp hI' => ⟨rfl, hI'.frm⟩
    | false =>
    refine gw ?_
    have hxi : S.L[i]? = some S.L[i] := List.getElem?_eq_getElem hil
    obtain ⟨ad, rfl⟩ := rd_some pa_len (by omega) hR (show 0 < S.L.length by show 0 < S.n; omega)
    have hpi : S.p i = S.L[i] := by simp [Srch.p, List.getD, hxi]
    have hdef : earlyF S sd i = (List.range S.n).all fun k => !(!sd.testBit k && decide (sortF (S.p k) = 2) && decide ((S.p k).to < (S.p i).fr)) := rfl
    have hD : doRN S.L (numR S.L) (ks A) i = doR (ks A) (S.p i).k (S.p i).nm (S.p i).a (S.p i).b (if sortF (S.p i) = 2 then (S.p i).va else numF S.L i) := rfl
    have hbad : ∀ D, badF S i D = ((decide (sortF (S.p i) = 2) && (decide (D.2.2 ≠ (S.p i).er) || decide (D.2.1 ≠ (S.p i).va))) || (decide (sortF (S.p i) = 1) && decide (D.2.2 ≠ 0))) := fun _ => rfl
    have hfit2 := hfit.next S.L (numR S.L) i
    rw [hpi] at hdef hD hO
    simp only [hpi] at hbad
    clear hpi
    generalize S.L[i] = q at *
    refine n_loop (σ := Nat) (fun k => [(0, .raw (.slice (some ad) S.n cap)), (1, .raw (.slice (some al) l.length capl)), (5, .raw (pV q0)), (6, .raw (.slice (some ⟨g, 0, none⟩) S.n S.n)), (7, .int .i64 (j : Nat)), (8, .int .i64 (i : Nat)), (9, .int .i64 (k : Nat))]) (fun _ => [⟨55, [.res (paRes (some ad) S.L)], false⟩, ⟨111, [.res (rmaRes q0 y A G)], true⟩, ⟨4, [.res (inR g S.n sd)], true⟩]) (fun k => k ≤ S.n ∧ ∀ m, m < k → (!(!sd.testBit m && decide (sortF (S.p m) = 2) && decide ((S.p m).to < q.fr))) = true) (fun k => S.n - k) 0 mixed ⟨by omega, by intro j h; omega⟩ (fun _ _ => rfl) rfl (by (repeat (first | exact trivial | refine ⟨⟨rfl, rfl⟩, ?_⟩))) (fun s _ => ⟨by (repeat (first | exact trivial | refine ⟨⟨_, rfl⟩, ?_⟩)), by (repeat (first | exact trivial | refine ⟨⟨_, rfl⟩, ?_⟩))⟩) fun k hk => ?_
    obtain ⟨hk, hJ⟩ := hk
    (refine gs ?_)
    by_cases hkl : k < S.n
    · have ek : IntKind.i64.wrap ((k : Int) + 1) = ((k + 1 : Nat) : Int) := by rw [w64 (by omega) (by omega)]; simp
      have hxk : S.L[k]? = some S.L[k] := List.getElem?_eq_getElem hkl
      have hpk : S.p k = S.L[k] := by simp [Srch.p, List.getD, hxk]
      have hbk := in_at (st := sd) hkl
      generalize S.L[k] = q2 at hxk hpk
      refine gw ?_
      (refine n_ldA (.bool (sd.testBit k)) rfl (by first | exact trivial | rfl) rfl (fun _ w1 _ hI1 => load_cell aggBool (cellsRes_at (hI1.res 2 rfl rfl) hbk (by simp))) ?_; (refine gs ?_))
      cases hbit2 : sd.testBit k with
      | true =>
        refine gw ?_
        refine n_again ⟨k + 1, ⟨by omega, fun m hm => ?_⟩, by omega, (by (repeat (first | exact trivial | refine ⟨⟨rfl, rfl⟩, ?_⟩ | refine ⟨⟨rfl, congrArg (SV.int .i64) ek⟩, ?_⟩))), ⟨_, rfl⟩⟩
        by_cases em : m = k
        · subst em; exact by rw [hbit2]; rfl
        · exact hJ m (by omega)
      | false =>
        refine gw ?_
        (refine n_ldA (.agg q2.sv) rfl (by first | exact trivial | rfl) rfl (fun _ w1 _ hI1 => pa_row (hI1.res 0 rfl rfl) hxk rfl) ?_; (refine gs ?_))
        refine gw ?_
        refine n_sameP (.int .i64 (sortF q2)) rfl rfl rfl (fun _ w1 hp1 hI1 => rSort_ok q2 w1) ?_; (refine gs ?_)
        refine gw ?_
        repeat ((refine n_ldA (.agg q2.sv) rfl (by first | exact trivial | rfl) rfl (fun _ w1 _ hI1 => pa_row (hI1.res 0 rfl rfl) hxk rfl) ?_; (refine gs ?_)); refine gw ?_)
        by_cases s2 : sortF q2 = 2
        · (repeat ((first | refine n_must rfl ?_ | refine n_chk (drawF_ok (by decide +kernel)) ?_ | refine n_same rfl ?_ | ((first | refine n_must ?_ ?_ | refine n_brT ?_ ?_); (focus (first | (simp [s2]; done) | (simp [s2]; omega) | (simp only [s2]; simp; done)))) | (refine n_brF ?_ ?_; (focus (first | (simp [s2]; done) | (simp [s2]; omega) | (simp only [s2]; simp; done)))) | refine n_must (by (with_reducible refine and_shape ?_) <;> kernel_rfl) ?_); (refine gs ?_)))
          (repeat ((first | (refine n_ldA (.int .i64 q2.to) rfl (by first | exact trivial | rfl) rfl (fun _ w1 _ hI1 => load_cell aggInt (pa_cell (hI1.res 0 rfl rfl) hxk 7 rfl (addT ad k 10 7))) ?_; (refine gs ?_)) | (refine n_ldA (.int .i64 q.fr) rfl (by first | exact trivial | rfl) rfl (fun _ w1 _ hI1 => load_cell aggInt (pa_cell (hI1.res 0 rfl rfl) hxi 6 rfl (addT ad i 10 6))) ?_; (refine gs ?_))); (repeat ((first | refine n_must rfl ?_ | refine n_chk (drawF_ok (by decide +kernel)) ?_ | refine n_same rfl ?_ | ((first | refine n_must ?_ ?_ | refine n_brT ?_ ?_); (focus (first | (simp [s2]; done) | (simp [s2]; omega) | (simp only [s2]; simp; done)))) | (refine n_brF ?_ ?_; (focus (first | (simp [s2]; done) | (simp [s2]; omega) | (simp only [s2]; simp; done)))) | refine n_must (by (with_reducible refine and_shape ?_) <;> kernel_rfl) ?_); (refine gs ?_)))))
          by_cases hto : q2.to < q.fr
          · (repeat ((first | refine n_must rfl ?_ | refine n_chk (drawF_ok (by decide +kernel)) ?_ | refine n_same rfl ?_ | ((first | refine n_must ?_ ?_ | refine n_brT ?_ ?_); (focus (first | (simp [s2, hto]; done) | (simp [s2, hto]; omega) | (simp only [s2, hto]; simp; done)))) | (refine n_brF ?_ ?_; (focus (first | (simp [s2, hto]; done) | (simp [s2, hto]; omega) | (simp only [s2, hto]; simp; done)))) | refine n_must (by (with_reducible refine and_shape ?_) <;> kernel_rfl) ?_); (refine gs ?_)))
            refine n_leave ?_
            have he : earlyF S sd i = false := by rw [hdef, List.all_eq_false]; exact ⟨k, List.mem_range.2 hkl, by rw [hpk, hbit2, decide_eq_true s2, decide_eq_true hto]; decide⟩
            refine n_leave ?_
            rw [if_pos (.inr (.inr (.inr he)))] at hO
            rw [← hO]
            exact n_ret0 rfl rfl fun ids' w' hp hI' => ⟨rfl, hI'.frm⟩
          · (repeat ((first | refine n_must rfl ?_ | refine n_chk (drawF_ok (by decide +kernel)) ?_ | refine n_same rfl ?_ | ((first | refine n_must ?_ ?_ | refine n_brT ?_ ?_); (focus (first | (simp [s2, hto]; done) | (simp [s2, hto]; omega) | (simp only [s2, hto]; simp; done)))) | (refine n_brF ?_ ?_; (focus (first | (simp [s2, hto]; done) | (simp [s2, hto]; omega) | (simp only [s2, hto]; simp; done)))) | refine n_must (by (with_reducible refine and_shape ?_) <;> kernel_rfl) ?_); (refine gs ?_)))
            refine n_again ⟨k + 1, ⟨by omega, fun m hm => ?_⟩, by omega, (by (repeat (first | exact trivial | refine ⟨⟨rfl, rfl⟩, ?_⟩ | refine ⟨⟨rfl, congrArg (SV.int .i64) ek⟩, ?_⟩))), ⟨_, rfl⟩⟩
            by_cases em : m = k
            · subst em; exact by rw [hpk, decide_eq_false hto]; simp
            · exact hJ m (by omega)
        · (repeat ((first | refine n_must rfl ?_ | refine n_chk (drawF_ok (by decide +kernel)) ?_ | refine n_same rfl ?_ | ((first | refine n_must ?_ ?_ | refine n_brT ?_ ?_); (focus (first | (simp [s2]; done) | (simp [s2]; omega) | (simp only [s2]; simp; done)))) | (refine n_brF ?_ ?_; (focus (first | (simp [s2]; done) | (simp [s2]; omega) | (simp only [s2]; simp; done)))) | refine n_must (by (with_reducible refine and_shape ?_) <;> kernel_rfl) ?_); (refine gs ?_)))
          refine n_again ⟨k + 1, ⟨by omega, fun m hm => ?_⟩, by omega, (by (repeat (first | exact trivial | refine ⟨⟨rfl, rfl⟩, ?_⟩ | refine ⟨⟨rfl, congrArg (SV.int .i64) ek⟩, ?_⟩))), ⟨_, rfl⟩⟩
          by_cases em : m = k
          · subst em; exact by rw [hpk, decide_eq_false s2]; simp
          · exact hJ m (by omega)
    obtain rfl : k = S.n := by omega
    have he : earlyF S sd i = true := by rw [hdef, List.all_eq_true]; exact fun m hm => hJ m (List.mem_range.1 hm)
    rw [if_neg (by rw [hbit, he]; simp; omega)] at hO
    refine gw ?_
    refine n_exit rfl ?_
    (refine gs ?_)
    refine gw ?_
    have hset := in_set (sd := sd) hil
    refine n_storeA (n := g) (off := i) (k := 1) (ty := 4) 2 (ρ := inR g S.n sd) (l := inL S.n sd) (inR g S.n (sd ||| 2 ^ i)) (inL S.n (sd ||| 2 ^ i)) rfl rfl rfl (add_raw g i) rfl rfl rfl rfl rfl rfl rfl rfl (by simp [cellsRes]) (fun _ h => h) (by simp; omega) hset (fun _ _ _ _ h => h) (fun _ h => h) ?_
    (refine gs ?_)
    refine gw ?_
    (refine n_ldA (.agg q.sv) rfl (by first | exact trivial | rfl) rfl (fun _ w1 _ hI1 => pa_row (hI1.res 0 rfl rfl) hxi rfl) ?_; (refine gs ?_))
    refine gw ?_
    refine n_call1 rfl fun b1 => ?_
    refine n_sameP (.int .i64 (sortF q)) rfl rfl rfl (fun _ w1 hp1 hI1 => rSort_ok q w1) ?_; (refine gs ?_)
    obtain ⟨ft, hAl⟩ := hfit.fit (by omega)
    have hd' : l.drop (j + 1) = r := by
      have := congrArg List.tail hd
      simpa using this
    by_cases s2 : sortF q = 2
    · rw [if_pos s2] at hD hO
      (repeat ((first | refine n_must rfl ?_ | refine n_chk (drawF_ok (by decide +kernel)) ?_ | refine n_same rfl ?_ | ((first | refine n_must ?_ ?_ | refine n_brT ?_ ?_); (focus (first | (simp [s2]; done) | (simp [s2]; omega) | (simp only [s2]; simp; done)))) | (refine n_brF ?_ ?_; (focus (first | (simp [s2]; done) | (simp [s2]; omega) | (simp only [s2]; simp; done)))) | refine n_must (by (with_reducible refine and_shape ?_) <;> kernel_rfl) ?_); (refine gs ?_)))
      refine n_callR (Y := (Option Addr × Nat) × List Rc × List Rw) 1 (ρ := rmaRes q0 y A G) (fun z => rmaRes q0 z.1 z.2.1 z.2.2) (fun _ => ansS (doR (ks A) q.k q.nm q.a q.b q.va).2.1 (doR (ks A) q.k q.nm q.a q.b q.va).2.2) (fun _ => ansV (doR (ks A) q.k q.nm q.a q.b q.va).2.1 (doR (ks A) q.k q.nm q.a q.b q.va).2.2) (fun z => ks z.2.1 = (doR (ks A) q.k q.nm q.a q.b q.va).1 ∧ AllIn z.2.2 z.2.1 ∧ ∀ r ∈ G, r ∈ z.2.2) rfl rfl (fun _ => rfl) rfl rfl rfl (fun _ w1 hp1 hI1 hR => rmDo_ok hR hin hng ft (by omega) q.k q.nm q.a q.b q.va) ?_
      rintro ⟨z1, A2, G2⟩ ⟨q1, q2, q3⟩
      dsimp only at q1 q2 q3
      rw [hD] at hO hfit2
      generalize doR (ks A) q.k q.nm q.a q.b q.va = D at q1 hO hfit2
      (refine gs ?_)
      refine gw ?_
      by_cases e2 : D.2.1 = q.va
      · by_cases e1 : D.2.2 = q.er
        · have hb : badF S i ([], D.2) = false := by rw [hbad]; simp [s2, e1, e2]
          rw [if_neg (by rw [hb]; simp)] at hO
          (repeat ((first | refine n_must rfl ?_ | refine n_chk (drawF_ok (by decide +kernel)) ?_ | refine n_same rfl ?_ | ((first | refine n_must ?_ ?_ | refine n_brT ?_ ?_); (focus (first | (simp [e1, e2]; done) | (simp [e1, e2]; omega) | (simp only [e1, e2]; simp; done)))) | (refine n_brF ?_ ?_; (focus (first | (simp [e1, e2]; done) | (simp [e1, e2]; omega) | (simp only [e1, e2]; simp; done)))) | refine n_must (by (with_reducible refine and_shape ?_) <;> kernel_rfl) ?_); (refine gs ?_)))
          rw [← q1] at hO hfit2
          exact n_again ⟨(j + 1, sd ||| 2 ^ i, z1, A2, G2), ⟨by dsimp only; omega, by dsimp only; rw [← hd'] at hO; exact hO, q2, ⟨q3 _ hng.1, q3 _ hng.2⟩, hfit2⟩, by dsimp only; omega, (by (repeat (first | exact trivial | refine ⟨⟨rfl, rfl⟩, ?_⟩ | refine ⟨⟨rfl, congrArg (SV.int .i64) ej⟩, ?_⟩))), ⟨_, rfl⟩⟩
        · have hb : badF S i ([], D.2) = true := by rw [hbad]; simp [s2, e1]
          (repeat ((first | refine n_must rfl ?_ | refine n_chk (drawF_ok (by decide +kernel)) ?_ | refine n_same rfl ?_ | ((first | refine n_must ?_ ?_ | refine n_brT ?_ ?_); (focus (first | (simp [e1, e2]; done) | (simp [e1, e2]; omega) | (simp only [e1, e2]; simp; done)))) | (refine n_brF ?_ ?_; (focus (first | (simp [e1, e2]; done) | (simp [e1, e2]; omega) | (simp only [e1, e2]; simp; done)))) | refine n_must (by (with_reducible refine and_shape ?_) <;> kernel_rfl) ?_); (refine gs ?_)))
          refine n_leave ?_
          rw [if_pos hb] at hO
          rw [← hO]
          exact n_ret0 rfl rfl fun ids' w' hp hI' => ⟨rfl, hI'.frm⟩
      · have hb : badF S i ([], D.2) = true := by rw [hbad]; simp [s2, e2]
        (repeat ((first | refine n_must rfl ?_ | refine n_chk (drawF_ok (by decide +kernel)) ?_ | refine n_same rfl ?_ | ((first | refine n_must ?_ ?_ | refine n_brT ?_ ?_); (focus (first | (simp [e2]; done) | (simp [e2]; omega) | (simp only [e2]; simp; done)))) | (refine n_brF ?_ ?_; (focus (first | (simp [e2]; done) | (simp [e2]; omega) | (simp only [e2]; simp; done)))) | refine n_must (by (with_reducible refine and_shape ?_) <;> kernel_rfl) ?_); (refine gs ?_)))
        refine n_leave ?_
        rw [if_pos hb] at hO
        rw [← hO]
        exact n_ret0 rfl rfl fun ids' w' hp hI' => ⟨rfl, hI'.frm⟩
    rw [if_neg s2] at hD hO
    (repeat ((first | refine n_must rfl ?_ | refine n_chk (drawF_ok (by decide +kernel)) ?_ | refine n_same rfl ?_ | ((first | refine n_must ?_ ?_ | refine n_brT ?_ ?_); (focus (first | (simp [s2]; done) | (simp [s2]; omega) | (simp only [s2]; simp; done)))) | (refine n_brF ?_ ?_; (focus (first | (simp [s2]; done) | (simp [s2]; omega) | (simp only [s2]; simp; done)))) | refine n_must (by (with_reducible refine and_shape ?_) <;> kernel_rfl) ?_); (refine gs ?_)))
    refine n_sameP (.int .i64 (sortF q)) rfl rfl rfl (fun _ w1 hp1 hI1 => rSort_ok q w1) ?_; (refine gs ?_)
    by_cases s1 : sortF q = 1
    · by_cases ht : q.to = -1
      · have hop : openF q = true := by simp [openF, ht]
        rw [if_pos ⟨s1, hop⟩] at hO
        (repeat ((first | refine n_must rfl ?_ | refine n_chk (drawF_ok (by decide +kernel)) ?_ | refine n_same rfl ?_ | ((first | refine n_must ?_ ?_ | refine n_brT ?_ ?_); (focus (first | (simp [s1, ht]; done) | (simp [s1, ht]; omega) | (simp only [s1, ht]; simp; done)))) | (refine n_brF ?_ ?_; (focus (first | (simp [s1, ht]; done) | (simp [s1, ht]; omega) | (simp only [s1, ht]; simp; done)))) | refine n_must (by (with_reducible refine and_shape ?_) <;> kernel_rfl) ?_); (refine gs ?_)))
        refine n_sameP (.int .i64 (numF S.L i)) rfl rfl rfl (fun _ w1 hp1 hI1 => rNumber_ok cap (hI1.res 0 rfl rfl) (fun x hx => hI1.resLt 0 rfl rfl x (by first | exact hx | exact rd_inR hx | exact rd_inC hx)) hN (by omega)) ?_; (refine gs ?_)
        refine gw ?_
        refine n_callR (Y := (Option Addr × Nat) × List Rc × List Rw) 1 (ρ := rmaRes q0 y A G) (fun z => rmaRes q0 z.1 z.2.1 z.2.2) (fun _ => ansS (doR (ks A) q.k q.nm q.a q.b (numF S.L i)).2.1 (doR (ks A) q.k q.nm q.a q.b (numF S.L i)).2.2) (fun _ => ansV (doR (ks A) q.k q.nm q.a q.b (numF S.L i)).2.1 (doR (ks A) q.k q.nm q.a q.b (numF S.L i)).2.2) (fun z => ks z.2.1 = (doR (ks A) q.k q.nm q.a q.b (numF S.L i)).1 ∧ AllIn z.2.2 z.2.1 ∧ ∀ r ∈ G, r ∈ z.2.2) rfl rfl (fun _ => rfl) rfl rfl rfl (fun _ w1 hp1 hI1 hR => rmDo_ok hR hin hng ft (by omega) q.k q.nm q.a q.b (numF S.L i)) ?_
        rintro ⟨z1, A2, G2⟩ ⟨q1, q2, q3⟩
        dsimp only at q1 q2 q3
        rw [hD] at hO hfit2
        generalize doR (ks A) q.k q.nm q.a q.b (numF S.L i) = D at q1 hO hfit2
        (refine gs ?_)
        refine gw ?_
        by_cases e0 : D.2.2 = 0
        · by_cases hlast : j + 1 = l.length
          · have hr0 : r = [] := List.eq_nil_of_length_eq_zero (by omega)
            have hq : (j : Int) = IntKind.i64.wrap ((l.length : Int) - 1) := by rw [w64 (by omega) (by omega)]; omega
            (repeat ((first | refine n_must rfl ?_ | refine n_chk (drawF_ok (by decide +kernel)) ?_ | refine n_same rfl ?_ | ((first | refine n_must ?_ ?_ | refine n_brT ?_ ?_); (focus (first | (simp [e0, hq]; done) | (simp [e0, hq]; omega) | (simp only [e0, hq]; simp; done)))) | (refine n_brF ?_ ?_; (focus (first | (simp [e0, hq]; done) | (simp [e0, hq]; omega) | (simp only [e0, hq]; simp; done)))) | refine n_must (by (with_reducible refine and_shape ?_) <;> kernel_rfl) ?_); (refine gs ?_)))
            refine n_leave ?_
            rw [if_pos (.inr hr0)] at hO
            rw [← hO]
            exact n_ret0 rfl rfl fun ids' w' hp hI' => ⟨rfl, hI'.frm⟩
          · have hr0 : r ≠ [] := fun h => by rw [h] at hlen; simp at hlen; omega
            have hq : ¬ (j : Int) = IntKind.i64.wrap ((l.length : Int) - 1) := by rw [w64 (by omega) (by omega)]; omega
            rw [if_neg (by rintro (h | h); exact h e0; exact hr0 h)] at hO
            (repeat ((first | refine n_must rfl ?_ | refine n_chk (drawF_ok (by decide +kernel)) ?_ | refine n_same rfl ?_ | ((first | refine n_must ?_ ?_ | refine n_brT ?_ ?_); (focus (first | (simp [e0, hq]; done) | (simp [e0, hq]; omega) | (simp only [e0, hq]; simp; done)))) | (refine n_brF ?_ ?_; (focus (first | (simp [e0, hq]; done) | (simp [e0, hq]; omega) | (simp only [e0, hq]; simp; done)))) | refine n_must (by (with_reducible refine and_shape ?_) <;> kernel_rfl) ?_); (refine gs ?_)))
            rw [← q1] at hO hfit2
            exact n_again ⟨(j + 1, sd ||| 2 ^ i, z1, A2, G2), ⟨by dsimp only; omega, by dsimp only; rw [← hd'] at hO; exact hO, q2, ⟨q3 _ hng.1, q3 _ hng.2⟩, hfit2⟩, by dsimp only; omega, (by (repeat (first | exact trivial | refine ⟨⟨rfl, rfl⟩, ?_⟩ | refine ⟨⟨rfl, congrArg (SV.int .i64) ej⟩, ?_⟩))), ⟨_, rfl⟩⟩
        · (repeat ((first | refine n_must rfl ?_ | refine n_chk (drawF_ok (by decide +kernel)) ?_ | refine n_same rfl ?_ | ((first | refine n_must ?_ ?_ | refine n_brT ?_ ?_); (focus (first | (simp [e0]; done) | (simp [e0]; omega) | (simp only [e0]; simp; done)))) | (refine n_brF ?_ ?_; (focus (first | (simp [e0]; done) | (simp [e0]; omega) | (simp only [e0]; simp; done)))) | refine n_must (by (with_reducible refine and_shape ?_) <;> kernel_rfl) ?_); (refine gs ?_)))
          refine n_leave ?_
          rw [if_pos (.inl e0)] at hO
          rw [← hO]
          exact n_ret0 rfl rfl fun ids' w' hp hI' => ⟨rfl, hI'.frm⟩
      by_cases he1 : q.er = 111
      · have hop : openF q = true := by simp [openF, he1]
        rw [if_pos ⟨s1, hop⟩] at hO
        (repeat ((first | refine n_must rfl ?_ | refine n_chk (drawF_ok (by decide +kernel)) ?_ | refine n_same rfl ?_ | ((first | refine n_must ?_ ?_ | refine n_brT ?_ ?_); (focus (first | (simp [s1, ht, he1]; done) | (simp [s1, ht, he1]; omega) | (simp only [s1, ht, he1]; simp; done)))) | (refine n_brF ?_ ?_; (focus (first | (simp [s1, ht, he1]; done) | (simp [s1, ht, he1]; omega) | (simp only [s1, ht, he1]; simp; done)))) | refine n_must (by (with_reducible refine and_shape ?_) <;> kernel_rfl) ?_); (refine gs ?_)))
        refine n_sameP (.int .i64 (numF S.L i)) rfl rfl rfl (fun _ w1 hp1 hI1 => rNumber_ok cap (hI1.res 0 rfl rfl) (fun x hx => hI1.resLt 0 rfl rfl x (by first | exact hx | exact rd_inR hx | exact rd_inC hx)) hN (by omega)) ?_; (refine gs ?_)
        refine gw ?_
        refine n_callR (Y := (Option Addr × Nat) × List Rc × List Rw) 1 (ρ := rmaRes q0 y A G) (fun z => rmaRes q0 z.1 z.2.1 z.2.2) (fun _ => ansS (doR (ks A) q.k q.nm q.a q.b (numF S.L i)).2.1 (doR (ks A) q.k q.nm q.a q.b (numF S.L i)).2.2) (fun _ => ansV (doR (ks A) q.k q.nm q.a q.b (numF S.L i)).2.1 (doR (ks A) q.k q.nm q.a q.b (numF S.L i)).2.2) (fun z => ks z.2.1 = (doR (ks A) q.k q.nm q.a q.b (numF S.L i)).1 ∧ AllIn z.2.2 z.2.1 ∧ ∀ r ∈ G, r ∈ z.2.2) rfl rfl (fun _ => rfl) rfl rfl rfl (fun _ w1 hp1 hI1 hR => rmDo_ok hR hin hng ft (by omega) q.k q.nm q.a q.b (numF S.L i)) ?_
        rintro ⟨z1, A2, G2⟩ ⟨q1, q2, q3⟩
        dsimp only at q1 q2 q3
        rw [hD] at hO hfit2
        generalize doR (ks A) q.k q.nm q.a q.b (numF S.L i) = D at q1 hO hfit2
        (refine gs ?_)
        refine gw ?_
        by_cases e0 : D.2.2 = 0
        · by_cases hlast : j + 1 = l.length
          · have hr0 : r = [] := List.eq_nil_of_length_eq_zero (by omega)
            have hq : (j : Int) = IntKind.i64.wrap ((l.length : Int) - 1) := by rw [w64 (by omega) (by omega)]; omega
            (repeat ((first | refine n_must rfl ?_ | refine n_chk (drawF_ok (by decide +kernel)) ?_ | refine n_same rfl ?_ | ((first | refine n_must ?_ ?_ | refine n_brT ?_ ?_); (focus (first | (simp [e0, hq]; done) | (simp [e0, hq]; omega) | (simp only [e0, hq]; simp; done)))) | (refine n_brF ?_ ?_; (focus (first | (simp [e0, hq]; done) | (simp [e0, hq]; omega) | (simp only [e0, hq]; simp; done)))) | refine n_must (by (with_reducible refine and_shape ?_) <;> kernel_rfl) ?_); (refine gs ?_)))
            refine n_leave ?_
            rw [if_pos (.inr hr0)] at hO
            rw [← hO]
            exact n_ret0 rfl rfl fun ids' w' hp hI' => ⟨rfl, hI'.frm⟩
          · have hr0 : r ≠ [] := fun h => by rw [h] at hlen; simp at hlen; omega
            have hq : ¬ (j : Int) = IntKind.i64.wrap ((l.length : Int) - 1) := by rw [w64 (by omega) (by omega)]; omega
            rw [if_neg (by rintro (h | h); exact h e0; exact hr0 h)] at hO
            (repeat ((first | refine n_must rfl ?_ | refine n_chk (drawF_ok (by decide +kernel)) ?_ | refine n_same rfl ?_ | ((first | refine n_must ?_ ?_ | refine n_brT ?_ ?_); (focus (first | (simp [e0, hq]; done) | (simp [e0, hq]; omega) | (simp only [e0, hq]; simp; done)))) | (refine n_brF ?_ ?_; (focus (first | (simp [e0, hq]; done) | (simp [e0, hq]; omega) | (simp only [e0, hq]; simp; done)))) | refine n_must (by (with_reducible refine and_shape ?_) <;> kernel_rfl) ?_); (refine gs ?_)))
            rw [← q1] at hO hfit2
            exact n_again ⟨(j + 1, sd ||| 2 ^ i, z1, A2, G2), ⟨by dsimp only; omega, by dsimp only; rw [← hd'] at hO; exact hO, q2, ⟨q3 _ hng.1, q3 _ hng.2⟩, hfit2⟩, by dsimp only; omega, (by (repeat (first | exact trivial | refine ⟨⟨rfl, rfl⟩, ?_⟩ | refine ⟨⟨rfl, congrArg (SV.int .i64) ej⟩, ?_⟩))), ⟨_, rfl⟩⟩
        · (repeat ((first | refine n_must rfl ?_ | refine n_chk (drawF_ok (by decide +kernel)) ?_ | refine n_same rfl ?_ | ((first | refine n_must ?_ ?_ | refine n_brT ?_ ?_); (focus (first | (simp [e0]; done) | (simp [e0]; omega) | (simp only [e0]; simp; done)))) | (refine n_brF ?_ ?_; (focus (first | (simp [e0]; done) | (simp [e0]; omega) | (simp only [e0]; simp; done)))) | refine n_must (by (with_reducible refine and_shape ?_) <;> kernel_rfl) ?_); (refine gs ?_)))
          refine n_leave ?_
          rw [if_pos (.inl e0)] at hO
          rw [← hO]
          exact n_ret0 rfl rfl fun ids' w' hp hI' => ⟨rfl, hI'.frm⟩
      · have hop : ¬ openF q = true := by simp [openF, ht, he1]
        rw [if_neg fun h => hop h.2] at hO
        (repeat ((first | refine n_must rfl ?_ | refine n_chk (drawF_ok (by decide +kernel)) ?_ | refine n_same rfl ?_ | ((first | refine n_must ?_ ?_ | refine n_brT ?_ ?_); (focus (first | (simp [s1, ht, he1]; done) | (simp [s1, ht, he1]; omega) | (simp only [s1, ht, he1]; simp; done)))) | (refine n_brF ?_ ?_; (focus (first | (simp [s1, ht, he1]; done) | (simp [s1, ht, he1]; omega) | (simp only [s1, ht, he1]; simp; done)))) | refine n_must (by (with_reducible refine and_shape ?_) <;> kernel_rfl) ?_); (refine gs ?_)))
        refine n_leave ?_
        rw [← hO]
        exact n_ret0 rfl rfl fun ids' w' hp hI' => ⟨rfl, hI'.frm⟩
    · rw [if_neg fun h => s1 h.1] at hO
      (repeat ((first | refine n_must rfl ?_ | refine n_chk (drawF_ok (by decide +kernel)) ?_ | refine n_same rfl ?_ | ((first | refine n_must ?_ ?_ | refine n_brT ?_ ?_); (focus (first | (simp [s1]; done) | (simp [s1]; omega) | (simp only [s1]; simp; done)))) | (refine n_brF ?_ ?_; (focus (first | (simp [s1]; done) | (simp [s1]; omega) | (simp only [s1]; simp; done)))) | refine n_must (by (with_reducible refine and_shape ?_) <;> kernel_rfl) ?_); (refine gs ?_)))
      refine n_leave ?_
      rw [← hO]
      exact n_ret0 rfl rfl fun ids' w' hp hI' => ⟨rfl, hI'.frm⟩
  obtain rfl : j = l.length := by omega
  rw [List.drop_of_length_le (Nat.le_refl _), ordG] at hO
  subst hO
  refine gw ?_
  refine n_exit rfl ?_
  (refine gs ?_)
  refine gw ?_
  have hleft : leftF S sd = (List.range S.n).any fun i => decide (sortF (S.p i) = 2) && !sd.testBit i := rfl
  refine n_loop (σ := Nat) (fun k => [(0, .raw (.slice o S.n cap)), (6, .raw (.slice (some ⟨g, 0, none⟩) S.n S.n)), (15, .int .i64 (k : Nat))]) (fun _ => [⟨55, [.res (paRes o S.L)], false⟩, ⟨111, [.res (rmaRes q0 y A G)], true⟩, ⟨4, [.res (inR g S.n sd)], true⟩]) (fun k => k ≤ S.n ∧ ∀ m, m < k → (decide (sortF (S.p m) = 2) && !sd.testBit m) = false) (fun k => S.n - k) 0 mixed ⟨by omega, by intro j h; omega⟩ (fun _ _ => rfl) rfl (by (repeat (first | exact trivial | refine ⟨⟨rfl, rfl⟩, ?_⟩))) (fun s _ => ⟨by (repeat (first | exact trivial | refine ⟨⟨_, rfl⟩, ?_⟩)), by (repeat (first | exact trivial | refine ⟨⟨_, rfl⟩, ?_⟩))⟩) fun k hk => ?_
  obtain ⟨hk, hJ⟩ := hk
  (refine gs ?_)
  by_cases hkl : k < S.n
  · have ek : IntKind.i64.wrap ((k : Int) + 1) = ((k + 1 : Nat) : Int) := by rw [w64 (by omega) (by omega)]; simp
    have hxk : S.L[k]? = some S.L[k] := List.getElem?_eq_getElem hkl
    obtain ⟨ad, rfl⟩ := rd_some pa_len (by omega) hR (show 0 < S.L.length by show 0 < S.n; omega)
    have hpk : S.p k = S.L[k] := by simp [Srch.p, List.getD, hxk]
    have hbk := in_at (st := sd) hkl
    generalize S.L[k] = q2 at hxk hpk
    refine gw ?_
    (refine n_ldA (.agg q2.sv) rfl (by first | exact trivial | rfl) rfl (fun _ w1 _ hI1 => pa_row (hI1.res 0 rfl rfl) hxk rfl) ?_; (refine gs ?_))
    refine gw ?_
    refine n_sameP (.int .i64 (sortF q2)) rfl rfl rfl (fun _ w1 hp1 hI1 => rSort_ok q2 w1) ?_; (refine gs ?_)
    by_cases s2 : sortF q2 = 2
    · (repeat ((first | refine n_must rfl ?_ | refine n_chk (drawF_ok (by decide +kernel)) ?_ | refine n_same rfl ?_ | ((first | refine n_must ?_ ?_ | refine n_brT ?_ ?_); (focus (first | (simp [s2]; done) | (simp [s2]; omega) | (simp only [s2]; simp; done)))) | (refine n_brF ?_ ?_; (focus (first | (simp [s2]; done) | (simp [s2]; omega) | (simp only [s2]; simp; done)))) | refine n_must (by (with_reducible refine and_shape ?_) <;> kernel_rfl) ?_); (refine gs ?_)))
      (refine n_ldA (.bool (sd.testBit k)) rfl (by first | exact trivial | rfl) rfl (fun _ w1 _ hI1 => load_cell aggBool (cellsRes_at (hI1.res 2 rfl rfl) hbk (by simp))) ?_; (refine gs ?_))
      cases hbit2 : sd.testBit k with
      | true =>
        refine gw ?_
        refine n_again ⟨k + 1, ⟨by omega, fun m hm => ?_⟩, by omega, (by (repeat (first | exact trivial | refine ⟨⟨rfl, rfl⟩, ?_⟩ | refine ⟨⟨rfl, congrArg (SV.int .i64) ek⟩, ?_⟩))), ⟨_, rfl⟩⟩
        by_cases em : m = k
        · subst em; exact by rw [hbit2]; simp
        · exact hJ m (by omega)
      | false =>
        refine gw ?_
        refine n_leave ?_
        have e : leftF S sd = true := by rw [hleft, List.any_eq_true]; exact ⟨k, List.mem_range.2 hkl, by rw [hpk, hbit2, decide_eq_true s2]; rfl⟩
        rw [e]
        exact n_ret0 rfl rfl fun ids' w' hp hI' => ⟨rfl, hI'.frm⟩
    · (repeat ((first | refine n_must rfl ?_ | refine n_chk (drawF_ok (by decide +kernel)) ?_ | refine n_same rfl ?_ | ((first | refine n_must ?_ ?_ | refine n_brT ?_ ?_); (focus (first | (simp [s2]; done) | (simp [s2]; omega) | (simp only [s2]; simp; done)))) | (refine n_brF ?_ ?_; (focus (first | (simp [s2]; done) | (simp [s2]; omega) | (simp only [s2]; simp; done)))) | refine n_must (by (with_reducible refine and_shape ?_) <;> kernel_rfl) ?_); (refine gs ?_)))
      refine n_again ⟨k + 1, ⟨by omega, fun m hm => ?_⟩, by omega, (by (repeat (first | exact trivial | refine ⟨⟨rfl, rfl⟩, ?_⟩ | refine ⟨⟨rfl, congrArg (SV.int .i64) ek⟩, ?_⟩))), ⟨_, rfl⟩⟩
      by_cases em : m = k
      · subst em; exact by rw [hpk, decide_eq_false s2]; rfl
      · exact hJ m (by omega)
  obtain rfl : k = S.n := by omega
  have e : leftF S sd = false := by
    rw [hleft, List.any_eq_false]
    intro m hm
    rw [hJ m (List.mem_range.1 hm)]; simp
  rw [e]
  refine gw ?_
  refine n_exit rfl ?_
  (refine gs ?_)
  refine gw ?_
  exact n_ret0 rfl rfl fun ids' w' hp hI' => ⟨rfl, hI'.frm⟩
end Go.Proofs.Ytfcbcgjgkleonaa
