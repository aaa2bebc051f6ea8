/- sluiceref17: rest. sluiceref17: Search. -/
import Derived.Test.YtfcbcgjgkleonaaBnL
namespace Go.Proofs.Ytfcbcgjgkleonaa
section
set_option maxRecDepth 100000
set_option linter.unusedSimpArgs false
set_option linter.unusedVariables false
set_option maxHeartbeats 16000000
open Go.RowKit

abbrev ansR (x : Option (List Nat)) : List Int := (x.getD []).map fun i : Nat => (i : Int)
theorem restF_len (S : Srch) (ν : Nat → Int) : ∀ (n sd : Nat) (l : List Rk) (x : List Nat), restF S ν n sd l = some x → x.length ≤ n
  | 0, _, _, _, h => by cases h
  | n + 1, sd, l, x, h => by
    rw [restF] at h
    split at h
    · injection h with h; subst h; simp
    have key : ∀ r : List Nat, restT (restF S ν n) S ν sd l r = some x → x.length ≤ n + 1 := by
      intro r
      induction r with
      | nil => intro h; cases h
      | cons i r ih =>
        intro h
        rw [restT] at h
        split at h
        · exact ih h
        · split at h
          · exact ih h
          · split at h
            · rename_i y hy
              injection h with h; subst h
              have := restF_len S ν n _ _ y hy
              simp; omega
            · exact ih h
    exact key _ h
theorem cand_eq (S : Srch) (sd i : Nat) : candF S sd i = (!sd.testBit i && standB (S.p i) && earlyF S sd i) := by
  unfold candF standB
  congr 1
  rcases sort_3 (S.p i) with h | h | h
  · rw [h]; cases sd.testBit i <;> cases openF (S.p i) <;> rfl
  · rw [h]; cases sd.testBit i <;> cases openF (S.p i) <;> rfl
  · rw [h]; cases sd.testBit i <;> cases openF (S.p i) <;> rfl
theorem in_set {n sd i : Nat} (hi : i < n) : (inL n sd).take i ++ [.bool true] ++ (inL n sd).drop (i + 1) = inL n (sd ||| 2 ^ i) := by
  apply List.ext_getElem?
  intro j
  by_cases hj : j < i
  · rw [List.append_assoc, List.getElem?_append_left (by simp; omega), List.getElem?_take, if_pos hj, in_at (by omega), in_at (by omega)]
    have : (sd ||| 2 ^ i).testBit j = sd.testBit j := by rw [Nat.testBit_or, Nat.testBit_two_pow_of_ne (by omega), Bool.or_false]
    rw [this]
  · by_cases e : j = i
    · subst e
      rw [in_at hi, List.append_assoc, List.getElem?_append_right (by simp; omega)]
      have h1 : (sd ||| 2 ^ j).testBit j = true := by rw [Nat.testBit_or, Nat.testBit_two_pow_self, Bool.or_true]
      rw [h1]
      have : j - ((inL n sd).take j).length = 0 := by simp; omega
      rw [this]; rfl
    · rw [List.getElem?_append_right (by simp; omega)]
      have e1 : j - ((inL n sd).take i ++ [Value.bool true]).length = j - (i + 1) := by simp; omega
      rw [e1, List.getElem?_drop, show i + 1 + (j - (i + 1)) = j by omega]
      by_cases hn : j < n
      · have : (sd ||| 2 ^ i).testBit j = sd.testBit j := by rw [Nat.testBit_or, Nat.testBit_two_pow_of_ne (by omega), Bool.or_false]
        rw [in_at hn, in_at hn, this]
      · rw [List.getElem?_eq_none (by simp; omega), List.getElem?_eq_none (by simp; omega)]
theorem in_unset {n sd i : Nat} (hi : i < n) (hb : sd.testBit i = false) : (inL n (sd ||| 2 ^ i)).take i ++ [.bool false] ++ (inL n (sd ||| 2 ^ i)).drop (i + 1) = inL n sd := by
  apply List.ext_getElem?
  intro j
  by_cases hj : j < i
  · rw [List.append_assoc, List.getElem?_append_left (by simp; omega), List.getElem?_take, if_pos hj, in_at (by omega), in_at (by omega)]
    have : (sd ||| 2 ^ i).testBit j = sd.testBit j := by rw [Nat.testBit_or, Nat.testBit_two_pow_of_ne (by omega), Bool.or_false]
    rw [this]
  · by_cases e : j = i
    · subst e
      rw [in_at hi, List.append_assoc, List.getElem?_append_right (by simp; omega), hb]
      have : j - ((inL n (sd ||| 2 ^ j)).take j).length = 0 := by simp; omega
      rw [this]; rfl
    · rw [List.getElem?_append_right (by simp; omega)]
      have e1 : j - ((inL n (sd ||| 2 ^ i)).take i ++ [Value.bool false]).length = j - (i + 1) := by simp; omega
      rw [e1, List.getElem?_drop, show i + 1 + (j - (i + 1)) = j by omega]
      by_cases hn : j < n
      · have : (sd ||| 2 ^ i).testBit j = sd.testBit j := by rw [Nat.testBit_or, Nat.testBit_two_pow_of_ne (by omega), Bool.or_false]
        rw [in_at hn, in_at hn, this]
      · rw [List.getElem?_eq_none (by simp; omega), List.getElem?_eq_none (by simp; omega)]
theorem Post.nil3 {ρ a b : Res} {w w' : World} (h : Post ρ (a.both b) w w') : Post ρ (a.both (b.both (oRes (none, 0) []))) w w' := by
  have hf : (oRes (none, 0) []).fp = [] := rfl
  refine h.less ⟨h.2.1.1, ⟨h.2.1.2.1, rowRes_nil _ _ _, fun x _ hx => by cases hx⟩, fun x hx hx2 => ?_⟩ fun x hx => ?_
  · rcases List.mem_append.1 hx2 with hx2 | hx2
    · exact h.2.1.2.2 x hx hx2
    · cases hx2
  · rcases List.mem_append.1 hx with hx | hx
    · exact List.mem_append_left _ hx
    · rcases List.mem_append.1 hx with hx | hx
      · exact List.mem_append_right _ hx
      · cases hx
theorem Post.assoc {ρ a b c : Res} {w w' : World} (h : Post ρ ((a.both b).both c) w w') : Post ρ (a.both (b.both c)) w w' := by
  obtain ⟨⟨r1, r2, r3⟩, r4, r5⟩ := h.2.1
  refine h.less ⟨r1, ⟨r2, r4, fun x hx => r5 x (List.mem_append_right _ hx)⟩, fun x hx hx2 => ?_⟩ fun x hx => ?_
  · rcases List.mem_append.1 hx2 with hx2 | hx2
    · exact r3 x hx hx2
    · exact r5 x (List.mem_append_left _ hx) hx2
  · rcases List.mem_append.1 hx with hx | hx
    · exact List.mem_append_left _ (List.mem_append_left _ hx)
    · rcases List.mem_append.1 hx with hx | hx
      · exact List.mem_append_left _ (List.mem_append_right _ hx)
      · exact List.mem_append_right _ hx
theorem add_raw (g i : Nat) : (⟨g, 0, none⟩ : Addr).add ((i : Int).toNat * 1) = ⟨g, i, none⟩ := by rw [Nat.mul_one, Int.toNat_natCast, add_mk]

theorem rRest_ok {S : Srch} {o : Option Addr} (cap : Nat) (hN : S.n ≤ 12) : ∀ (n sd : Nat) {d p g : Nat} {y : Option Addr × Nat} {A : List Rc} {G : List Rw} {w : World}, n ≤ 100 → d + n ≤ 1000 → unset S sd < n → (paRes o S.L).R w → (∀ x ∈ (paRes o S.L).fp, x < w.heap.size) → ((inR g S.n sd).both (arm p y A G)).R w →
    (∀ x ∈ ((inR g S.n sd).both (arm p y A G)).fp, x < w.heap.size) → (∀ x ∈ (paRes o S.L).fp, x ∉ ((inR g S.n sd).both (arm p y A G)).fp) → AllIn G A → NilG G → FitN d (ks A) →
    Calls Try.prog 44 #[.slice o S.n cap, .slice (some ⟨g, 0, none⟩) S.n S.n, pV p] w fun e w' => ∃ z : List Rw × (Option Addr × Nat), e = .returned (.tuple #[.slice z.2.1 (ansR (restF S (numR S.L) n sd (ks A))).length z.2.2, .bool (restF S (numR S.L) n sd (ks A)).isSome]) ∧ (∀ r ∈ G, r ∈ z.1) ∧
      Post ((inR g S.n sd).both (arm p y A G)) ((inR g S.n sd).both ((arRes z.1).both (oRes z.2 (ansR (restF S (numR S.L) n sd (ks A)))))) w w' := by
  obtain ⟨iti, hiti, hpi9⟩ := Option.map_eq_some_iff.1 infoInt
  simp only [Prod.mk.injEq] at hpi9
  intro n
  induction n with
  | zero => intro sd d p g y A G w _ _ h; omega
  | succ n ih =>
  intro sd d p g y A G w hn100 hdn hun hL hLlt hρ hρlt hap hin hng hfit
  have hρ' := hρ
  obtain ⟨hB, ⟨hG, hM, hgm⟩, hbm⟩ := hρ
  have hbm1 : ∀ x ∈ (inR g S.n sd).fp, x ∉ (arRes G).fp := fun x hx h => hbm x hx (List.mem_append_left _ h)
  have hbm2 : ∀ x ∈ (inR g S.n sd).fp, x ∉ (rmRes p y A).fp := fun x hx h => hbm x hx (List.mem_append_right _ h)
  have hI0 : Inv (cx 85 [] ((inR g S.n sd).both (arm p y A G)).fp w) w [0] [⟨55, [.res (paRes o S.L)], false⟩] := (Inv.nil w).consR (by simp) hL hLlt (by simp)
  have hI1 := hI0.consR (t := 111) (rw_ := false) (r := rmRes p y A) (fun x hx hm => hap x (by simpa [fpsOf, fpOf, resOf] using hm) (List.mem_append_right _ (List.mem_append_right _ hx))) hM (fun x hx => hρlt x (List.mem_append_right _ (List.mem_append_right _ hx))) (by simp)
  have hI2 := hI1.consR (t := 4) (rw_ := true) (r := inR g S.n sd) (fun x hx hm => by
    have hm' : x ∈ (paRes o S.L).fp ∨ x ∈ (rmRes p y A).fp := by simpa [fpsOf, fpOf, resOf] using hm
    rcases hm' with hm | hm
    · exact hap x hm (List.mem_append_left _ hx)
    · exact hbm2 x hx hm) hB (fun x hx => hρlt x (List.mem_append_left _ hx)) (fun _ x hx => List.mem_append_left _ hx)
  have hI := hI2.consR (t := 3) (rw_ := true) (r := arRes G) (fun x hx hm => by
    have hm' : (x ∈ (paRes o S.L).fp ∨ x ∈ (rmRes p y A).fp) ∨ x ∈ (inR g S.n sd).fp := by simpa [fpsOf, fpOf, resOf, or_assoc] using hm
    rcases hm' with (hm | hm) | hm
    · exact hap x hm (List.mem_append_right _ (List.mem_append_left _ hx))
    · exact hgm x hx hm
    · exact hbm1 x hm hx) hG (arRes_lt hG) (fun _ x hx => List.mem_append_right _ (List.mem_append_left _ hx))
  refine calls_sm (cx 85 [] ((inR g S.n sd).both (arm p y A G)).fp w) (vals := [.raw (.slice o S.n cap), .raw (.slice (some ⟨g, 0, none⟩) S.n S.n), .raw (pV p)]) mixed Try.func44 rfl rfl rfl hI rfl (st rfl ?_); conv => arg 3; whnf
  generalize hR : restF S (numR S.L) (n + 1) sd (ks A) = R
  have hF : R = if leftF S sd = false then some [] else restT (restF S (numR S.L) n) S (numR S.L) sd (ks A) (List.range S.n) := by rw [← hR]; rfl
  clear hR
  refine gw ?_
  refine n_loop (σ := Nat × Bool) (fun t => [(0, .raw (.slice o S.n cap)), (1, .raw (.slice (some ⟨g, 0, none⟩) S.n S.n)), (2, .raw (pV p)), (8, svB t.2 (!((List.range t.1).any fun i => decide (sortF (S.p i) = 2) && !sd.testBit i))), (9, .int .i64 (t.1 : Nat))]) (fun _ => [⟨55, [.res (paRes o S.L)], false⟩, ⟨111, [.res (rmRes p y A)], false⟩, ⟨4, [.res (inR g S.n sd)], true⟩, ⟨3, [.res (arRes G)], true⟩]) (fun t => t.1 ≤ S.n) (fun t => S.n - t.1) (0, true) mixed (by simp) (fun _ _ => rfl) rfl (by (repeat (first | exact trivial | refine ⟨⟨rfl, rfl⟩, ?_⟩))) (fun t _ => ⟨by obtain ⟨t, k⟩ := t; cases k <;> cases h : ((List.range t).any fun i => decide (sortF (S.p i) = 2) && !sd.testBit i) <;> dsimp only <;> (repeat (first | exact trivial | refine ⟨⟨_, rfl⟩, ?_⟩)), by (repeat (first | exact trivial | refine ⟨⟨_, rfl⟩, ?_⟩))⟩) fun t ht => ?_
  obtain ⟨i, kd⟩ := t
  dsimp only at ht ⊢
  by_cases hil : i < S.n
  · have ei : IntKind.i64.wrap ((i : Int) + 1) = ((i + 1 : Nat) : Int) := by rw [w64 (by omega) (by omega)]; simp
    have hx : S.L[i]? = some S.L[i] := List.getElem?_eq_getElem hil
    obtain ⟨ad, rfl⟩ := rd_some pa_len (by omega) hL (show 0 < S.L.length by show 0 < S.n; omega)
    have hpi : S.p i = S.L[i] := by simp [Srch.p, List.getD, hx]
    have hbi := in_at (st := sd) hil
    have hnx : ((List.range (i + 1)).any fun i => decide (sortF (S.p i) = 2) && !sd.testBit i) = (((List.range i).any fun i => decide (sortF (S.p i) = 2) && !sd.testBit i) || (decide (sortF (S.p i) = 2) && !sd.testBit i)) := by rw [List.range_succ, List.any_append]; simp
    rw [hpi] at hnx
    generalize S.L[i] = q at hx hnx
    generalize ((List.range i).any fun i => decide (sortF (S.p i) = 2) && !sd.testBit i) = T at hnx
    cases kd with
    | true =>
      cases T with
      | true =>
        (refine gs ?_)
        refine gw ?_
        rw [Bool.true_or] at hnx
        refine n_again ⟨(i + 1, true), by dsimp only; omega, by dsimp only; omega, ?_, ⟨_, rfl⟩⟩
        dsimp only
        rw [hnx]; exact (by (repeat (first | exact trivial | refine ⟨⟨rfl, rfl⟩, ?_⟩ | refine ⟨⟨rfl, congrArg (SV.int .i64) ei⟩, ?_⟩)))
      | false =>
        (refine gs ?_)
        refine gw ?_
        rw [Bool.false_or] at hnx
        (refine n_ldA (.bool (sd.testBit i)) rfl (by first | exact trivial | rfl) rfl (fun _ w1 _ hI1 => load_cell aggBool (cellsRes_at (hI1.res 2 rfl rfl) hbi (by simp))) ?_; (refine gs ?_))
        cases hbit : sd.testBit i with
        | true =>
          rw [hbit] at hnx
          refine gw ?_
          rw [(by simp : (decide (sortF q = 2) && !true) = false)] at hnx
          refine n_again ⟨(i + 1, true), by dsimp only; omega, by dsimp only; omega, ?_, ⟨_, rfl⟩⟩
          dsimp only
          rw [hnx]; exact (by (repeat (first | exact trivial | refine ⟨⟨rfl, rfl⟩, ?_⟩ | refine ⟨⟨rfl, congrArg (SV.int .i64) ei⟩, ?_⟩)))
        | false =>
          rw [hbit] at hnx
          refine gw ?_
          (refine n_ldA (.agg q.sv) rfl (by first | exact trivial | rfl) rfl (fun _ w1 _ hI1 => pa_row (hI1.res 0 rfl rfl) hx rfl) ?_; (refine gs ?_))
          refine gw ?_
          refine n_sameP (.int .i64 (sortF q)) rfl rfl rfl (fun _ w1 hp1 hI1 => rSort_ok q w1) ?_; (refine gs ?_)
          refine gw ?_
          repeat ((refine n_ldA (.agg q.sv) rfl (by first | exact trivial | rfl) rfl (fun _ w1 _ hI1 => pa_row (hI1.res 0 rfl rfl) hx rfl) ?_; (refine gs ?_)); refine gw ?_)
          have hcq : (sortF q != 2) = !(decide (sortF q = 2) && !false) := by
            by_cases h : sortF q = 2 <;> simp [h]
          refine n_again ⟨(i + 1, false), by dsimp only; omega, by dsimp only; omega, ?_, ⟨_, rfl⟩⟩
          dsimp only
          rw [hnx]; exact (by (repeat (first | exact trivial | refine ⟨⟨rfl, rfl⟩, ?_⟩ | refine ⟨⟨rfl, congrArg (SV.int .i64) ei⟩, ?_⟩ | refine ⟨⟨rfl, congrArg SV.bool hcq⟩, ?_⟩)))
    | false =>
      cases T with
      | true =>
        (refine gs ?_)
        refine gw ?_
        rw [Bool.true_or] at hnx
        refine n_again ⟨(i + 1, true), by dsimp only; omega, by dsimp only; omega, ?_, ⟨_, rfl⟩⟩
        dsimp only
        rw [hnx]; exact (by (repeat (first | exact trivial | refine ⟨⟨rfl, rfl⟩, ?_⟩ | refine ⟨⟨rfl, congrArg (SV.int .i64) ei⟩, ?_⟩)))
      | false =>
        (refine gs ?_)
        refine gw ?_
        rw [Bool.false_or] at hnx
        (refine n_ldA (.bool (sd.testBit i)) rfl (by first | exact trivial | rfl) rfl (fun _ w1 _ hI1 => load_cell aggBool (cellsRes_at (hI1.res 2 rfl rfl) hbi (by simp))) ?_; (refine gs ?_))
        cases hbit : sd.testBit i with
        | true =>
          rw [hbit] at hnx
          refine gw ?_
          rw [(by simp : (decide (sortF q = 2) && !true) = false)] at hnx
          refine n_again ⟨(i + 1, true), by dsimp only; omega, by dsimp only; omega, ?_, ⟨_, rfl⟩⟩
          dsimp only
          rw [hnx]; exact (by (repeat (first | exact trivial | refine ⟨⟨rfl, rfl⟩, ?_⟩ | refine ⟨⟨rfl, congrArg (SV.int .i64) ei⟩, ?_⟩)))
        | false =>
          rw [hbit] at hnx
          refine gw ?_
          (refine n_ldA (.agg q.sv) rfl (by first | exact trivial | rfl) rfl (fun _ w1 _ hI1 => pa_row (hI1.res 0 rfl rfl) hx rfl) ?_; (refine gs ?_))
          refine gw ?_
          refine n_sameP (.int .i64 (sortF q)) rfl rfl rfl (fun _ w1 hp1 hI1 => rSort_ok q w1) ?_; (refine gs ?_)
          refine gw ?_
          repeat ((refine n_ldA (.agg q.sv) rfl (by first | exact trivial | rfl) rfl (fun _ w1 _ hI1 => pa_row (hI1.res 0 rfl rfl) hx rfl) ?_; (refine gs ?_)); refine gw ?_)
          have hcq : (sortF q != 2) = !(decide (sortF q = 2) && !false) := by
            by_cases h : sortF q = 2 <;> simp [h]
          refine n_again ⟨(i + 1, false), by dsimp only; omega, by dsimp only; omega, ?_, ⟨_, rfl⟩⟩
          dsimp only
          rw [hnx]; exact (by (repeat (first | exact trivial | refine ⟨⟨rfl, rfl⟩, ?_⟩ | refine ⟨⟨rfl, congrArg (SV.int .i64) ei⟩, ?_⟩ | refine ⟨⟨rfl, congrArg SV.bool hcq⟩, ?_⟩)))
  obtain rfl : i = S.n := by omega
  have hleft : ((List.range S.n).any fun i => decide (sortF (S.p i) = 2) && !sd.testBit i) = leftF S sd := rfl
  rw [hleft]
  cases hLf : leftF S sd with
  | false =>
    rw [hLf, if_pos rfl] at hF
    subst hF
    have Gsub : ∀ r ∈ G, r ∈ G := fun r h => h
    cases kd with
    | true =>
      (refine gs ?_)
      refine gw ?_
      refine n_exit rfl ?_
      (refine gs ?_)
      refine gw ?_
      exact n_ret0 rfl rfl fun ids' w' hp hI' => ⟨(G, (none, 0)), rfl, Gsub, (post_res (hI'.absorb 2 3 (by decide) rfl rfl rfl rfl rfl rfl) rfl 2 rfl rfl rfl).nil3⟩
    | false =>
      (refine gs ?_)
      refine gw ?_
      refine n_exit rfl ?_
      (refine gs ?_)
      refine gw ?_
      exact n_ret0 rfl rfl fun ids' w' hp hI' => ⟨(G, (none, 0)), rfl, Gsub, (post_res (hI'.absorb 2 3 (by decide) rfl rfl rfl rfl rfl rfl) rfl 2 rfl rfl rfl).nil3⟩
  | true =>
  rw [hLf, if_neg (by simp)] at hF
  apply later
  · intro hB
    cases kd with
    | true =>
      (refine gs ?_)
      refine gw ?_
      refine n_exit rfl ?_
      (refine gs ?_)
      refine gw ?_
      refine n_loopM (σ := Nat × List Rw) (fun t => [(0, .raw (.slice o S.n cap)), (1, .raw (.slice (some ⟨g, 0, none⟩) S.n S.n)), (2, .raw (pV p)), (10, .int .i64 (t.1 : Nat))]) (fun t => [⟨55, [.res (paRes o S.L)], false⟩, ⟨111, [.res (rmRes p y A)], false⟩, ⟨4, [.res (inR g S.n sd)], true⟩, ⟨3, [.res (arRes t.2)], true⟩]) (fun t => t.1 ≤ S.n ∧ R = restT (restF S (numR S.L) n) S (numR S.L) sd (ks A) ((List.range S.n).drop t.1) ∧ ∀ r ∈ G, r ∈ t.2) (fun t => S.n - t.1) (0, G) mixed ⟨by simp, by simpa using hF, fun r h => h⟩ (fun _ _ => rfl) (fun w h => h) rfl (by (repeat (first | exact trivial | refine ⟨⟨rfl, rfl⟩, ?_⟩))) (fun s _ => ⟨by (repeat (first | exact trivial | refine ⟨⟨_, rfl⟩, ?_⟩)), by (repeat (first | exact trivial | refine ⟨⟨_, rfl⟩, ?_⟩))⟩) ?_
      exact hB.1
    | false =>
      (refine gs ?_)
      refine gw ?_
      refine n_exit rfl ?_
      (refine gs ?_)
      refine gw ?_
      refine n_loopM (σ := Nat × List Rw) (fun t => [(0, .raw (.slice o S.n cap)), (1, .raw (.slice (some ⟨g, 0, none⟩) S.n S.n)), (2, .raw (pV p)), (10, .int .i64 (t.1 : Nat))]) (fun t => [⟨55, [.res (paRes o S.L)], false⟩, ⟨111, [.res (rmRes p y A)], false⟩, ⟨4, [.res (inR g S.n sd)], true⟩, ⟨3, [.res (arRes t.2)], true⟩]) (fun t => t.1 ≤ S.n ∧ R = restT (restF S (numR S.L) n) S (numR S.L) sd (ks A) ((List.range S.n).drop t.1) ∧ ∀ r ∈ G, r ∈ t.2) (fun t => S.n - t.1) (0, G) mixed ⟨by simp, by simpa using hF, fun r h => h⟩ (fun _ _ => rfl) (fun w h => h) rfl (by (repeat (first | exact trivial | refine ⟨⟨rfl, rfl⟩, ?_⟩))) (fun s _ => ⟨by (repeat (first | exact trivial | refine ⟨⟨_, rfl⟩, ?_⟩)), by (repeat (first | exact trivial | refine ⟨⟨_, rfl⟩, ?_⟩))⟩) ?_
      exact hB.1
  intro t ht
  obtain ⟨i, G1⟩ := t
  obtain ⟨hi, hR, G1sub⟩ := ht
  dsimp only at hi hR G1sub ⊢
  (refine gs ?_)
  by_cases hil : i < S.n
  · have ei : IntKind.i64.wrap ((i : Int) + 1) = ((i + 1 : Nat) : Int) := by rw [w64 (by omega) (by omega)]; simp
    have hx : S.L[i]? = some S.L[i] := List.getElem?_eq_getElem hil
    obtain ⟨ad, rfl⟩ := rd_some pa_len (by omega) hL (show 0 < S.L.length by show 0 < S.n; omega)
    have hpi : S.p i = S.L[i] := by simp [Srch.p, List.getD, hx]
    have hbi := in_at (st := sd) hil
    have hin1 : AllIn G1 A := fun c hc => (hin c hc).mono G1sub
    have hng1 : NilG G1 := ⟨G1sub _ hng.1, G1sub _ hng.2⟩
    have hdrop : (List.range S.n).drop i = i :: (List.range S.n).drop (i + 1) := by rw [List.drop_eq_getElem_cons (by simpa using hil)]; simp
    rw [hdrop, restT] at hR
    have hcand := cand_eq S sd i
    rw [hpi] at hcand
    have hsq : sortF (S.p i) = sortF S.L[i] := by rw [hpi]
    generalize S.L[i] = q at hx hcand hsq
    refine gw ?_
    (refine n_ldA (.bool (sd.testBit i)) rfl (by first | exact trivial | rfl) rfl (fun _ w1 _ hI1 => load_cell aggBool (cellsRes_at (hI1.res 2 rfl rfl) hbi (by simp))) ?_; (refine gs ?_))
    cases hbit : sd.testBit i with
    | true =>
      rw [hbit] at hcand
      refine gw ?_
      have hcf : candF S sd i = false := by rw [hcand]; rfl
      rw [if_pos hcf] at hR
      refine n_againM fun ids' w' hp hI' => ⟨(i + 1, G1), ⟨by dsimp only; omega, hR, G1sub⟩, by dsimp only; omega, (by (repeat (first | exact trivial | refine ⟨⟨rfl, rfl⟩, ?_⟩ | refine ⟨⟨rfl, congrArg (SV.int .i64) ei⟩, ?_⟩))), ⟨_, hI'⟩⟩
    | false =>
    rw [hbit] at hcand
    refine gw ?_
    (refine n_ldA (.agg q.sv) rfl (by first | exact trivial | rfl) rfl (fun _ w1 _ hI1 => pa_row (hI1.res 0 rfl rfl) hx rfl) ?_; (refine gs ?_))
    refine gw ?_
    refine n_sameP (.bool (standB q)) rfl rfl rfl (fun _ w1 hp1 hI1 => rStands_ok q w1) ?_; (refine gs ?_)
    cases hst : standB q with
    | false =>
      rw [hst] at hcand
      refine gw ?_
      have hcf : candF S sd i = false := by rw [hcand]; rfl
      rw [if_pos hcf] at hR
      refine n_againM fun ids' w' hp hI' => ⟨(i + 1, G1), ⟨by dsimp only; omega, hR, G1sub⟩, by dsimp only; omega, (by (repeat (first | exact trivial | refine ⟨⟨rfl, rfl⟩, ?_⟩ | refine ⟨⟨rfl, congrArg (SV.int .i64) ei⟩, ?_⟩))), ⟨_, hI'⟩⟩
    | true =>
    rw [hst] at hcand
    have hs : sortF (S.p i) = 2 ∨ sortF (S.p i) = 1 := by
      rw [hsq]
      unfold standB at hst
      simp only [Bool.or_eq_true, Bool.and_eq_true, decide_eq_true_eq] at hst
      rcases hst with h | h
      · exact .inl h
      · exact .inr h.1
    refine gw ?_
    refine n_sameP (.bool (earlyF S sd i)) rfl rfl rfl (fun _ w1 hp1 hI1 => rEarly_ok cap (hI1.res 0 rfl rfl) (fun x hx => hI1.resLt 0 rfl rfl x hx) (hI1.res 2 rfl rfl) (by omega) hil) ?_; (refine gs ?_)
    cases he : earlyF S sd i with
    | false =>
      rw [he] at hcand
      refine gw ?_
      have hcf : candF S sd i = false := by rw [hcand]; rfl
      rw [if_pos hcf] at hR
      refine n_againM fun ids' w' hp hI' => ⟨(i + 1, G1), ⟨by dsimp only; omega, hR, G1sub⟩, by dsimp only; omega, (by (repeat (first | exact trivial | refine ⟨⟨rfl, rfl⟩, ?_⟩ | refine ⟨⟨rfl, congrArg (SV.int .i64) ei⟩, ?_⟩))), ⟨_, hI'⟩⟩
    | true =>
    rw [he] at hcand
    have hct : candF S sd i = true := by rw [hcand]; rfl
    rw [if_neg (by rw [hct]; simp)] at hR
    refine gw ?_
    by_cases hbd : bad17 S (ks A) i = true
    · have hbd' : badF S i ([], (doRN S.L (numR S.L) (ks A) i).2) = true := hbd
      rw [if_pos hbd'] at hR
      refine n_callR (Y := (Nat × (Option Addr × Nat)) × List Rc × List Rw) 3 (ρ := arRes G1) (fun z => arm z.1.1 z.1.2 z.2.1 z.2.2) (fun _ => .nilp) (fun _ => .pointer none) (fun z => ks z.2.1 = (doRN S.L (numR S.L) (ks A) i).1 ∧ AllIn z.2.2 z.2.1 ∧ ∀ r ∈ G1, r ∈ z.2.2) rfl rfl (fun _ => rfl) rfl rfl rfl (fun _ w1 hp1 hI1 hR1 => by
        have h := rNext_ok (S := S) (o := some ad) (p := p) (y := y) (A := A) (G := G1) (d := d) (i := i) cap hN (hI1.res 0 rfl rfl) (fun x hx => hI1.resLt 0 rfl rfl x hx) (hI1.res 1 rfl rfl) (fun x hx => hI1.resLt 1 rfl rfl x hx) hR1 (hI1.res_res 0 1 (by decide) rfl rfl rfl rfl) (hI1.res_res 0 3 (by decide) rfl rfl rfl rfl) (hI1.res_res 1 3 (by decide) rfl rfl rfl rfl) hin1 hng1 hfit (by omega) hil hs
        simp only [if_pos hbd] at h
        exact h) ?_
      rintro ⟨⟨x, yx⟩, A2, G2⟩ ⟨q1, q2, q3⟩
      dsimp only at q1 q2 q3
      (refine gs ?_)
      refine gw ?_
      refine n_againM fun ids' w' hp hI' => ⟨(i + 1, G2), ⟨by dsimp only; omega, hR, fun r h => q3 r (G1sub r h)⟩, by dsimp only; omega, (by (repeat (first | exact trivial | refine ⟨⟨rfl, rfl⟩, ?_⟩ | refine ⟨⟨rfl, congrArg (SV.int .i64) ei⟩, ?_⟩))), ⟨_, hI'.fst 3 rfl rfl rfl⟩⟩
    have hbd' : ¬ badF S i ([], (doRN S.L (numR S.L) (ks A) i).2) = true := hbd
    rw [if_neg hbd'] at hR
    refine n_callR (Y := (Nat × (Option Addr × Nat)) × List Rc × List Rw) 3 (ρ := arRes G1) (fun z => arm z.1.1 z.1.2 z.2.1 z.2.2) (fun z => .raw (pV z.1.1)) (fun z => pV z.1.1) (fun z => ks z.2.1 = (doRN S.L (numR S.L) (ks A) i).1 ∧ AllIn z.2.2 z.2.1 ∧ ∀ r ∈ G1, r ∈ z.2.2) rfl rfl (fun _ => rfl) rfl rfl rfl (fun _ w1 hp1 hI1 hR1 => by
      have h := rNext_ok (S := S) (o := some ad) (p := p) (y := y) (A := A) (G := G1) (d := d) (i := i) cap hN (hI1.res 0 rfl rfl) (fun x hx => hI1.resLt 0 rfl rfl x hx) (hI1.res 1 rfl rfl) (fun x hx => hI1.resLt 1 rfl rfl x hx) hR1 (hI1.res_res 0 1 (by decide) rfl rfl rfl rfl) (hI1.res_res 0 3 (by decide) rfl rfl rfl rfl) (hI1.res_res 1 3 (by decide) rfl rfl rfl rfl) hin1 hng1 hfit (by omega) hil hs
      simp only [if_neg hbd] at h
      exact h) ?_
    rintro ⟨⟨x, yx⟩, A2, G2⟩ ⟨q1, q2, q3⟩
    dsimp only at q1 q2 q3
    (refine gs ?_)
    refine gw ?_
    have hset := in_set (sd := sd) hil
    refine n_storeA (n := g) (off := i) (k := 1) (ty := 4) 2 (ρ := inR g S.n sd) (l := inL S.n sd) (inR g S.n (sd ||| 2 ^ i)) (inL S.n (sd ||| 2 ^ i)) rfl rfl rfl (add_raw g i) rfl rfl rfl rfl rfl rfl rfl rfl (by simp [cellsRes]) (fun _ h => h) (by simp; omega) hset (fun _ _ _ _ h => h) (fun _ h => h) ?_
    (refine gs ?_)
    refine gw ?_
    have hun2 := unset_or (S := S) hil hbit
    have hfit2 := hfit.next S.L (numR S.L) i
    rw [← q1] at hR hfit2
    have hlen9 := restF_len S (numR S.L) n (sd ||| 2 ^ i) (ks A2)
    have hng2 : NilG G2 := ⟨q3 _ hng1.1, q3 _ hng1.2⟩
    refine n_callX [] _ rfl (fun w1 hI1 => by rw [List.append_nil]; exact hI1.absorb 2 3 (by decide) rfl rfl rfl rfl rfl rfl) ?_
    generalize hFR : restF S (numR S.L) n (sd ||| 2 ^ i) (ks A2) = FR at hR hlen9
    refine n_callR (Y := List Rw × (Option Addr × Nat)) 2 (ρ := (inR g S.n (sd ||| 2 ^ i)).both (arm x yx A2 G2)) (fun z => (inR g S.n (sd ||| 2 ^ i)).both ((arRes z.1).both (oRes z.2 (ansR FR)))) (fun z => .tup [.raw (.slice z.2.1 (ansR FR).length z.2.2), .bool FR.isSome]) (fun z => .tuple #[.slice z.2.1 (ansR FR).length z.2.2, .bool FR.isSome]) (fun z => ∀ r ∈ G2, r ∈ z.1) rfl rfl (fun _ => rfl) rfl rfl rfl (fun _ w1 hp1 hI1 hR1 => by
      have h := ih (sd ||| 2 ^ i) (d := d + 1) (p := x) (g := g) (y := yx) (A := A2) (G := G2) (by omega) (by omega) (by omega) (hI1.res 0 rfl rfl) (fun x hx => hI1.resLt 0 rfl rfl x hx) hR1 (hI1.resLt 2 rfl rfl) (hI1.res_res 0 2 (by decide) rfl rfl rfl rfl) q2 hng2 hfit2
      rw [hFR] at h
      exact h) ?_
    rintro ⟨G3, yo, yc⟩ hG3
    dsimp only at hG3
    have hG3s : ∀ r ∈ G, r ∈ G3 := fun r h => hG3 r (q3 r (G1sub r h))
    (refine gs ?_)
    refine gw ?_
    have hun3 := in_unset hil hbit
    refine n_storeA (n := g) (off := i) (k := 1) (ty := 4) 2 (ρ := (inR g S.n (sd ||| 2 ^ i)).both ((arRes G3).both (oRes (yo, yc) (ansR FR)))) (l := inL S.n (sd ||| 2 ^ i)) ((inR g S.n sd).both ((arRes G3).both (oRes (yo, yc) (ansR FR)))) (inL S.n sd) rfl rfl rfl (add_raw g i) rfl rfl rfl rfl rfl rfl rfl rfl (by simp [cellsRes, Res.both]) (fun _ h => h.1) (by simp; omega) hun3 (fun w1 w2 h hf hb => ⟨hb, ((arRes G3).both (oRes (yo, yc) (ansR FR))).stable w1 w2 (fun k hk => hf.block k (by
        rcases List.mem_append.1 hk with hk | hk
        · exact arRes_lt h.2.1.1 k hk
        · exact rowRes_lt h.2.1.2.1 k hk) (by
        simp only [List.mem_singleton]
        intro e
        subst e
        exact h.2.2 k (by simp [cellsRes]) hk)) h.2.1, h.2.2⟩) (fun _ h => h) ?_
    (refine gs ?_)
    refine gw ?_
    cases FR with
    | none =>
      dsimp only at hR
      refine gw ?_
      refine n_againM fun ids' w' hp hI' => ⟨(i + 1, G3), ⟨by dsimp only; omega, hR, hG3s⟩, by dsimp only; omega, (by (repeat (first | exact trivial | refine ⟨⟨rfl, rfl⟩, ?_⟩ | refine ⟨⟨rfl, congrArg (SV.int .i64) ei⟩, ?_⟩))), ⟨_, (hI'.spread 2 3 (by decide) rfl rfl rfl rfl rfl).fst 3 rfl rfl rfl⟩⟩
    | some l =>
      dsimp only at hR
      subst hR
      have hl9 := hlen9 l rfl
      have hal : (ansR (some l)).length = l.length := by simp
      refine gw ?_
      refine n_build1 rfl rfl elemInt rfl rfl rfl rfl rfl rfl rfl rfl rfl ?_
      (refine gs ?_)
      refine gw ?_
      refine n_op1 rfl fun q6 => ?_
      refine n_opF (P := yo = none → (ansR (some l)).length = 0) (fun _ w1 _ hI1 => fun h0 => by
        have h1 := (hI1.res 2 rfl rfl).2.1.2.1
        rcases Nat.eq_zero_or_pos (ansR (some l)).length with h2 | h2
        · exact h2
        · obtain ⟨g, hg⟩ := rowRes_some' h1 h2
          rw [h0] at hg; cases hg) fun hnil => ?_
      refine n_appendS (n := 1) (m := (ansR (some l)).length) (q := q6) (j := 4) (nv := ints (ansR (some l))) (xs := [.int .i64 (i : Int)]) (xs' := ints (ansR (some (i :: l)))) rfl rfl elemInt hiti hpi9.1 hpi9.2.1 hpi9.2.2 rfl (by omega) rfl rfl rfl rfl rfl rfl rfl rfl rfl (by simp) (fun _ w1 _ hI1 => rd_of_row (hI1.res 2 rfl rfl).2.1.2.1) hnil (by intro u hu; obtain ⟨v, _, rfl⟩ := List.mem_map.1 hu; rfl) (by omega) (by omega) (by omega) (by simp) ?_
      intro g6 c6
      rw [show 1 + (ansR (some l)).length = (ansR (some (i :: l))).length by simp; omega]
      (refine gs ?_)
      refine gw ?_
      refine n_leaveM ?_
      refine n_ret0 rfl rfl fun ids' w' hp hI' => ⟨(G3, some ⟨g6, 0, none⟩, c6), rfl, hG3s, ?_⟩
      have hr := hI'.res 2 rfl rfl
      have h1 := hI'.less 2 (σ := (inR g S.n sd).both (arRes G3)) rfl rfl rfl ⟨hr.1, hr.2.1.1, fun x hx h => hr.2.2 x hx (List.mem_append_left _ h)⟩ (fun x hx => by
        rcases List.mem_append.1 hx with hx | hx
        · exact List.mem_append_left _ hx
        · exact List.mem_append_right _ (List.mem_append_left _ hx))
      exact (post_res (h1.absorb 2 4 (by decide) rfl rfl rfl rfl rfl rfl) rfl 2 rfl rfl rfl).assoc
  · obtain rfl : i = S.n := by omega
    rw [List.drop_of_length_le (by simp), restT] at hR
    subst hR
    refine gw ?_
    refine n_exitM rfl ?_
    (refine gs ?_)
    refine gw ?_
    exact n_ret0 rfl rfl fun ids' w' hp hI' => ⟨(G1, (none, 0)), rfl, G1sub, (post_res (hI'.absorb 2 3 (by decide) rfl rfl rfl rfl rfl rfl) rfl 2 rfl rfl rfl).nil3⟩
end
section
set_option maxRecDepth 100000
set_option linter.unusedSimpArgs false
set_option linter.unusedVariables false
set_option maxHeartbeats 8000000
open Go.RowKit

theorem rmNewB_ok (w : World) : Calls Try.prog 37 #[] w fun e w' => ∃ y : Nat, e = .returned (pV y) ∧ True ∧ FreshR w w' (arm y (none, 0) [] G0) :=
  (rmNew_ok w).mono fun e w' ⟨y, he, _, hf, hR, hn, hl⟩ => ⟨y, he, trivial, hf, ⟨G0_R w', hR, fun x hx => by cases hx⟩, fun x hx => hn x (by
    rcases List.mem_append.1 hx with hx | hx
    · cases hx
    · exact hx), fun x hx => hl x (by
    rcases List.mem_append.1 hx with hx | hx
    · cases hx
    · exact hx)⟩
theorem in_zero (n : Nat) : (List.replicate n (Value.bool false).cells.toList).flatten = inL n 0 := by
  have h0 : (Value.bool false).cells.toList = [Value.bool false] := rfl
  rw [h0]
  have h1 : inL n 0 = List.replicate n (Value.bool false) := by
    simp [inL, List.map_const']
  rw [h1]
  induction n with
  | zero => rfl
  | succ n ih => rw [List.replicate_succ, List.flatten_cons, ih (by simp [inL, List.map_const']), List.replicate_succ]; rfl
theorem infoBool : (Try.prog.info? 4).map (fun i => (i.zero, i.size, i.bytes)) = some (some (.bool false), 1, 1) := by kernel_rfl
theorem FitN.nil (d : Nat) : FitN d [] := ⟨fun c hc => by simp at hc, by simp⟩
theorem rSearch_ok {o : Option Addr} {L : List Pa} {w : World} (cap : Nat) (hR : (paRes o L).R w) (hlt : ∀ x ∈ (paRes o L).fp, x < w.heap.size) (hl : L.length ≤ 1759218604390) :
    Calls Try.prog 28 #[.slice o L.length cap] w fun e w' => ∃ y : Option Addr × Nat, e = .returned (.tuple #[.slice y.1 (searchF L).1.length y.2, .int .i64 (searchF L).2]) ∧ True ∧ FreshR w w' (oRes y (searchF L).1) := by
  obtain ⟨itb, hitb, hpb⟩ := Option.map_eq_some_iff.1 infoBool
  simp only [Prod.mk.injEq] at hpb
  have hI : Inv (cx 24 [(5, .then [(0, []), (1, []), (2, [])] (.fork 3 [] (.of [(4, []), (5, []), (6, []), (7, []), (8, []), (9, []), (10, [])]) (.cons 4 [] (.of [(3, []), (5, []), (6, []), (7, []), (8, []), (9, []), (10, [])]))))] [] w) w [0] [⟨55, [.res (paRes o L)], false⟩] := (Inv.nil w).consR (by simp) hR hlt (by simp)
  refine calls_sm (cx 24 [(5, .then [(0, []), (1, []), (2, [])] (.fork 3 [] (.of [(4, []), (5, []), (6, []), (7, []), (8, []), (9, []), (10, [])]) (.cons 4 [] (.of [(3, []), (5, []), (6, []), (7, []), (8, []), (9, []), (10, [])]))))] [] w) (vals := [.raw (.slice o L.length cap)]) mixed Try.func28 rfl rfl rfl hI rfl (st rfl ?_); conv => arg 3; whnf
  refine gg ?_
  refine n_sameP (.bool (rightH L)) rfl rfl rfl (fun _ w1 hp1 hI1 => rRight17_ok cap (hI1.res 0 rfl rfl) (hI1.resLt 0 rfl rfl) (by omega)) ?_; (refine gs ?_)
  by_cases hr : rightH L = false
  · (repeat ((first | refine n_must rfl ?_ | refine n_chk (drawF_ok (by decide +kernel)) ?_ | refine n_same rfl ?_ | ((first | refine n_must ?_ ?_ | refine n_brT ?_ ?_); (focus (first | (simp [hr]; done) | (simp [hr]; omega) | (simp only [hr]; simp; done)))) | (refine n_brF ?_ ?_; (focus (first | (simp [hr]; done) | (simp [hr]; omega) | (simp only [hr]; simp; done)))) | refine n_must (by (with_reducible refine and_shape ?_) <;> kernel_rfl) ?_); (refine gs ?_)))
    have e0 : searchF L = ([], 1) := by rw [searchF, if_pos hr]
    rw [e0]
    exact n_ret0 rfl rfl fun ids' w' hp hI' => ⟨(none, 0), rfl, trivial, hI'.frm, rowRes_nil _ _ _, (fun x hx => by cases hx), (fun x hx => by cases hx)⟩
  have hr' : rightH L = true := by simpa using hr
  (repeat ((first | refine n_must rfl ?_ | refine n_chk (drawF_ok (by decide +kernel)) ?_ | refine n_same rfl ?_ | ((first | refine n_must ?_ ?_ | refine n_brT ?_ ?_); (focus (first | (simp [hr']; done) | (simp [hr']; omega) | (simp only [hr']; simp; done)))) | (refine n_brF ?_ ?_; (focus (first | (simp [hr']; done) | (simp [hr']; omega) | (simp only [hr']; simp; done)))) | refine n_must (by (with_reducible refine and_shape ?_) <;> kernel_rfl) ?_); (refine gs ?_)))
  by_cases h12 : 12 < L.length
  · (repeat ((first | refine n_must rfl ?_ | refine n_chk (drawF_ok (by decide +kernel)) ?_ | refine n_same rfl ?_ | ((first | refine n_must ?_ ?_ | refine n_brT ?_ ?_); (focus (first | (simp [h12]; done) | (simp [h12]; omega) | (simp only [h12]; simp; done)))) | (refine n_brF ?_ ?_; (focus (first | (simp [h12]; done) | (simp [h12]; omega) | (simp only [h12]; simp; done)))) | refine n_must (by (with_reducible refine and_shape ?_) <;> kernel_rfl) ?_); (refine gs ?_)))
    have e0 : searchF L = ([], 172) := by rw [searchF, if_neg hr, if_pos h12]
    rw [e0]
    exact n_ret0 rfl rfl fun ids' w' hp hI' => ⟨(none, 0), rfl, trivial, hI'.frm, rowRes_nil _ _ _, (fun x hx => by cases hx), (fun x hx => by cases hx)⟩
  have hN : L.length ≤ 12 := by omega
  (repeat ((first | refine n_must rfl ?_ | refine n_chk (drawF_ok (by decide +kernel)) ?_ | refine n_same rfl ?_ | ((first | refine n_must ?_ ?_ | refine n_brT ?_ ?_); (focus (first | (simp [h12]; done) | (simp [h12]; omega) | (simp only [h12]; simp; done)))) | (refine n_brF ?_ ?_; (focus (first | (simp [h12]; done) | (simp [h12]; omega) | (simp only [h12]; simp; done)))) | refine n_must (by (with_reducible refine and_shape ?_) <;> kernel_rfl) ?_); (refine gs ?_)))
  have hS : searchF L = match (srchR L).1 with | none => ([], 171) | some l => (l.map fun i : Nat => (i : Int), 0) := by
    rw [searchF, if_neg hr, if_neg h12]
    cases (srchR L).1 <;> rfl
  rw [search_rest hr' hN] at hS
  have hu : unset (srchOf L) 0 < 13 := by
    have : unset (srchOf L) 0 ≤ (List.range (srchOf L).n).length := List.countP_le_length
    have h2 : (srchOf L).n = L.length := rfl
    rw [List.length_range, h2] at this; omega
  refine n_both ?_ ?_
  · (refine gs ?_)
    refine gw ?_
    refine n_makeSlice (n := L.length) 4 rfl rfl rfl Try.underlying95 hitb hpb.1 (by rw [hpb.2.1]; rfl) hpb.2.2 rfl rfl (by omega) (by omega) fun g hg => ?_
    rw [in_zero]
    (refine gs ?_)
    refine gw ?_
    refine n_callN (fun y : Nat => arm y (none, 0) [] G0) 111 (fun y => .raw (pV y)) (fun y => pV y) (fun _ => True) rfl rfl rfl (fun _ => rfl) (fun w1 hI1 => rmNewB_ok w1) ?_
    intro p _ hnew
    (refine gs ?_)
    refine gw ?_
    refine n_callX [] _ rfl (fun w1 hI1 => by rw [List.append_nil]; exact hI1.absorb 1 2 (by decide) rfl rfl rfl rfl rfl rfl) ?_
    refine n_callR (Y := List Rw × (Option Addr × Nat)) 1 (ρ := (inR g L.length 0).both (arm p (none, 0) [] G0)) (fun z => (inR g L.length 0).both ((arRes z.1).both (oRes z.2 (ansR (restF (srchOf L) (numR L) 13 0 []))))) (fun z => .tup [.raw (.slice z.2.1 (ansR (restF (srchOf L) (numR L) 13 0 [])).length z.2.2), .bool (restF (srchOf L) (numR L) 13 0 []).isSome]) (fun z => .tuple #[.slice z.2.1 (ansR (restF (srchOf L) (numR L) 13 0 [])).length z.2.2, .bool (restF (srchOf L) (numR L) 13 0 []).isSome]) (fun z => ∀ r ∈ G0, r ∈ z.1) rfl rfl (fun _ => rfl) rfl rfl rfl (fun _ w1 hp1 hI1 hR1 =>
      rRest_ok (S := srchOf L) cap hN 13 0 (d := 0) (p := p) (g := g) (y := (none, 0)) (A := []) (G := G0) (by omega) (by omega) hu (hI1.res 0 rfl rfl) (fun x hx => hI1.resLt 0 rfl rfl x hx) hR1 (hI1.resLt 1 rfl rfl) (hI1.res_res 0 1 (by decide) rfl rfl rfl rfl) (fun c hc => by simp at hc) G0_nil (FitN.nil 0)) ?_
    rintro ⟨G3, yo, yc⟩ hG3
    dsimp only at hG3
    generalize restF (srchOf L) (numR L) 13 0 [] = FR at hS
    (refine gs ?_)
    cases FR with
    | none =>
      refine gw ?_
      rw [hS]
      exact n_ret0 rfl rfl fun ids' w' hp hI' => ⟨(none, 0), rfl, trivial, hI'.frm, rowRes_nil _ _ _, (fun x hx => by cases hx), (fun x hx => by cases hx)⟩
    | some l =>
      refine gw ?_
      rw [hS]
      exact n_ret0 rfl rfl fun ids' w' hp hI' => ⟨(yo, yc), rfl, trivial, hI'.frm, (hI'.res 1 rfl rfl).2.1.2.1, (fun x hx => hI'.res_new 1 rfl rfl rfl (by simp) x (List.mem_append_right _ (List.mem_append_right _ hx))), (fun x hx => hI'.resLt 1 rfl rfl x (List.mem_append_right _ (List.mem_append_right _ hx)))⟩
  · (refine gs ?_)
    refine gw ?_
    refine n_callN (fun y : Nat => arm y (none, 0) [] G0) 111 (fun y => .raw (pV y)) (fun y => pV y) (fun _ => True) rfl rfl rfl (fun _ => rfl) (fun w1 hI1 => rmNewB_ok w1) ?_
    intro p _ hnew
    (refine gs ?_)
    refine gw ?_
    refine n_makeSlice (n := L.length) 4 rfl rfl rfl Try.underlying95 hitb hpb.1 (by rw [hpb.2.1]; rfl) hpb.2.2 rfl rfl (by omega) (by omega) fun g hg => ?_
    rw [in_zero]
    (refine gs ?_)
    refine gw ?_
    refine n_callX [] _ rfl (fun w1 hI1 => by rw [List.append_nil]; exact hI1.absorb 2 1 (by decide) rfl rfl rfl rfl rfl rfl) ?_
    refine n_callR (Y := List Rw × (Option Addr × Nat)) 2 (ρ := (inR g L.length 0).both (arm p (none, 0) [] G0)) (fun z => (inR g L.length 0).both ((arRes z.1).both (oRes z.2 (ansR (restF (srchOf L) (numR L) 13 0 []))))) (fun z => .tup [.raw (.slice z.2.1 (ansR (restF (srchOf L) (numR L) 13 0 [])).length z.2.2), .bool (restF (srchOf L) (numR L) 13 0 []).isSome]) (fun z => .tuple #[.slice z.2.1 (ansR (restF (srchOf L) (numR L) 13 0 [])).length z.2.2, .bool (restF (srchOf L) (numR L) 13 0 []).isSome]) (fun z => ∀ r ∈ G0, r ∈ z.1) rfl rfl (fun _ => rfl) rfl rfl rfl (fun _ w1 hp1 hI1 hR1 =>
      rRest_ok (S := srchOf L) cap hN 13 0 (d := 0) (p := p) (g := g) (y := (none, 0)) (A := []) (G := G0) (by omega) (by omega) hu (hI1.res 0 rfl rfl) (fun x hx => hI1.resLt 0 rfl rfl x hx) hR1 (hI1.resLt 2 rfl rfl) (hI1.res_res 0 2 (by decide) rfl rfl rfl rfl) (fun c hc => by simp at hc) G0_nil (FitN.nil 0)) ?_
    rintro ⟨G3, yo, yc⟩ hG3
    dsimp only at hG3
    generalize restF (srchOf L) (numR L) 13 0 [] = FR at hS
    (refine gs ?_)
    cases FR with
    | none =>
      refine gw ?_
      rw [hS]
      exact n_ret0 rfl rfl fun ids' w' hp hI' => ⟨(none, 0), rfl, trivial, hI'.frm, rowRes_nil _ _ _, (fun x hx => by cases hx), (fun x hx => by cases hx)⟩
    | some l =>
      refine gw ?_
      rw [hS]
      exact n_ret0 rfl rfl fun ids' w' hp hI' => ⟨(yo, yc), rfl, trivial, hI'.frm, (hI'.res 2 rfl rfl).2.1.2.1, (fun x hx => hI'.res_new 2 rfl rfl rfl (by simp) x (List.mem_append_right _ (List.mem_append_right _ hx))), (fun x hx => hI'.resLt 2 rfl rfl x (List.mem_append_right _ (List.mem_append_right _ hx)))⟩
end
end Go.Proofs.Ytfcbcgjgkleonaa
