/- Package check: Search. -/
import Derived.Test.YtfcbcgjgkleonaaCkY
import Derived.Test.YtfcbcgjgkleonaaCkU
import Derived.Test.YtfcbcgjgkleonaaCkO
set_option maxRecDepth 100000
set_option linter.unusedSimpArgs false
set_option linter.unusedVariables false
set_option maxHeartbeats 8000000
namespace Go.Proofs.Ytfcbcgjgkleonaa
open Go.RowKit

def hasN (a : List ByteArray) (n : ByteArray) : Bool := a.any fun y => decide (y = n)
theorem hasN_next (a : List ByteArray) (x n : ByteArray) : hasN (a ++ [x]) n = (hasN a n || decide (x = n)) := by unfold hasN; rw [List.any_append]; simp
def nmStep (a : List ByteArray) (p : Pa) : List ByteArray := if hasN a p.nm then a else a ++ [p.nm]
def namesF (L : List Pa) : List ByteArray := L.foldl nmStep []
theorem namesF_next {L : List Pa} {i : Nat} {p : Pa} (h : L[i]? = some p) : namesF (L.take (i + 1)) = nmStep (namesF (L.take i)) p := by
  unfold namesF
  rw [take_next h]
  simp
theorem namesF_len (L : List Pa) : (namesF L).length ≤ L.length := by
  have : ∀ (l : List Pa) (a : List ByteArray), (l.foldl nmStep a).length ≤ a.length + l.length := by
    intro l
    induction l with
    | nil => intro a; simp
    | cons e l ih =>
      intro a
      have h := ih (nmStep a e)
      have : (nmStep a e).length ≤ a.length + 1 := by unfold nmStep; split <;> simp
      simp only [List.foldl_cons, List.length_cons]
      omega
  have := this L []
  simpa [namesF] using this
theorem namesF_mem {L : List Pa} {x : ByteArray} (h : x ∈ namesF L) : ∃ p ∈ L, p.nm = x := by
  have : ∀ (l : List Pa) (a : List ByteArray), x ∈ l.foldl nmStep a → x ∈ a ∨ ∃ p ∈ l, p.nm = x := by
    intro l
    induction l with
    | nil => intro a h; exact .inl h
    | cons e l ih =>
      intro a h
      rcases ih (nmStep a e) h with h | ⟨p, hp, e2⟩
      · unfold nmStep at h
        split at h
        · exact .inl h
        · rcases List.mem_append.1 h with h | h
          · exact .inl h
          · simp at h; exact .inr ⟨e, by simp, h.symm⟩
      · exact .inr ⟨p, by simp [hp], e2⟩
  rcases this L [] h with h | h
  · simp at h
  · exact h
theorem holdsT_64 {L : List Pa} (hN : L.length ≤ 12) (h : ∀ p ∈ L, i64 p.va) : ∀ i, i ≤ L.length → ∀ x ∈ (holdsT L i).1, i64 x
  | 0, _ => by simp [holdsT]
  | i + 1, hi => by
    have ih := holdsT_64 hN h i (by omega)
    obtain ⟨h1, h2, h3⟩ := holdsT_ok L i (by omega)
    have hx : L[i]? = some L[i] := List.getElem?_eq_getElem _
    rw [holdsT_next hx]
    have hs := skipF_le L (L.length + 1) (holdsT L i).2
    have hln : (i : Int) * ((L.length : Int) + 2) ≤ 200 := by
      have h1 : (i : Int) * ((L.length : Int) + 2) ≤ 12 * ((L.length : Int) + 2) := Int.mul_le_mul_of_nonneg_right (by omega) (by omega)
      omega
    unfold holdStep
    split
    · intro x hx
      rcases List.mem_append.1 hx with hx | hx
      · exact ih x hx
      · simp at hx; subst hx; exact h _ (List.getElem_mem _)
    · intro x hx
      rcases List.mem_append.1 hx with hx | hx
      · exact ih x hx
      · simp at hx; subst hx; exact ⟨by omega, by omega⟩
abbrev srchOf (L : List Pa) : Srch := ⟨L, (holdsT L L.length).1, namesF L⟩
def srchR (L : List Pa) : Option (List Nat) × Vm := fromF (srchOf L) 13 0 [] []
def searchF (L : List Pa) : List Int × Int := if rightH L = false then ([], 1) else if 12 < L.length then ([], 172) else match (srchR L).1 with | none => ([], 171) | some l => (l.map fun i : Nat => (i : Int), 0)
theorem srch_ok {L : List Pa} (hN : L.length ≤ 12) (hg : ∀ p ∈ L, p.good) : (srchOf L).ok := by
  refine ⟨hN, Nat.le_trans (namesF_len L) hN, (holdsT_ok L L.length (Nat.le_refl _)).1, fun x hx => ?_, fun p hp => ⟨(hg p hp).nm, (hg p hp).a⟩, holdsT_64 hN (fun p hp => (hg p hp).va) L.length (Nat.le_refl _)⟩
  obtain ⟨p, hp, rfl⟩ := namesF_mem hx
  exact (hg p hp).nm
theorem elemSort : sliceElem Try.prog 74 = some 79 := by kernel_rfl
theorem infoSort : (Try.prog.info? 79).map (fun i => (i.zero, i.size, i.bytes)) = some (some (.int .i64 0), 1, 8) := by kernel_rfl
theorem elemStr : sliceElem Try.prog 75 = some 9 := by kernel_rfl
theorem infoStr : (Try.prog.info? 9).map (fun i => (i.zero, i.size, i.bytes)) = some (some (.string { data := #[] }), 1, 16) := by kernel_rfl
def smRes (b : Nat) (m : List (ByteArray × Bool)) : Res where
  fp := [b]
  R w := MapOf strE boolV w b m
  stable := fun w w' hk h => h.keep (hk b (by simp))
abbrev soRow (y : Option Addr × Nat) (l : List Int) : Res := rowRes 79 1 y.1 l.length y.2 (ints l)
abbrev stRow (y : Option Addr × Nat) (l : List ByteArray) : Res := rowRes 9 1 y.1 l.length y.2 (strs l)
theorem Search_ok {o : Option Addr} {L : List Pa} {w : World} (cap : Nat) (hR : (paRes o L).R w) (hlt : ∀ x ∈ (paRes o L).fp, x < w.heap.size) (hl : L.length ≤ 1759218604390) (hg : ∀ p ∈ L, p.good) :
    Calls Try.prog 11 #[.slice o L.length cap] w fun e w' => ∃ y : Option Addr × Nat, e = .returned (.tuple #[.slice y.1 (searchF L).1.length y.2, .int .i64 (searchF L).2]) ∧ True ∧ FreshR w w' (oRes y (searchF L).1) := by
  obtain ⟨iti, hiti, hpi⟩ := Option.map_eq_some_iff.1 infoSort
  simp only [Prod.mk.injEq] at hpi
  obtain ⟨its, hits, hps⟩ := Option.map_eq_some_iff.1 infoStr
  simp only [Prod.mk.injEq] at hps
  have hI0 : Inv (cx 78 [(11, .of [(0, []), (1, []), (2, []), (3, []), (4, []), (5, []), (6, [4]), (7, [4]), (8, []), (9, []), (10, []), (11, [])]), (14, .of [(0, []), (1, []), (2, []), (3, []), (4, []), (5, []), (6, []), (7, []), (8, [4]), (9, []), (10, []), (11, []), (12, [])])] [] w) w [0] [⟨55, [.res (paRes o L)], false⟩] := (Inv.nil w).consR (by simp) hR hlt (by simp)
  have hI1 := hI0.consR (t := 79) (rw_ := true) (r := soRow (none, 0) []) (fun x hx => by cases hx) (rowRes_nil _ _ _) (fun x hx => by cases hx) (fun _ x hx => by cases hx)
  have hI2 := hI1.consR (t := 9) (rw_ := true) (r := stRow (none, 0) []) (fun x hx => by cases hx) (rowRes_nil _ _ _) (fun x hx => by cases hx) (fun _ x hx => by cases hx)
  have hI := hI2.consR (t := 3) (rw_ := true) (r := oRes (none, 0) []) (fun x hx => by cases hx) (rowRes_nil _ _ _) (fun x hx => by cases hx) (fun _ x hx => by cases hx)
  refine calls_sm (cx 78 [(11, .of [(0, []), (1, []), (2, []), (3, []), (4, []), (5, []), (6, [4]), (7, [4]), (8, []), (9, []), (10, []), (11, [])]), (14, .of [(0, []), (1, []), (2, []), (3, []), (4, []), (5, []), (6, []), (7, []), (8, [4]), (9, []), (10, []), (11, []), (12, [])])] [] w) (vals := [.raw (.slice o L.length cap)]) mixed Try.func11 rfl rfl rfl hI rfl (st rfl ?_); conv => arg 3; whnf
  refine gg ?_
  have hL64 : ∀ p ∈ L, i64 p.se ∧ i64 p.id := fun p hp => ⟨(hg p hp).se, (hg p hp).id⟩
  by_cases hr : rightH L = false
  · refine n_sameP (.tup [.raw (.map none), .lit false]) rfl rfl rfl (fun _ w1 hp1 hI1 => (places_ok cap (hI1.res 0 rfl rfl) (hI1.resLt 0 rfl rfl) (by omega) hL64).mono fun e w' h => h.elim (fun h => h.2) fun h => by rw [hr] at h; cases h.1) ?_; (refine gs ?_)
    refine gw ?_
    have e0 : searchF L = ([], 1) := by rw [searchF, if_pos hr]
    rw [e0]
    exact n_ret0 rfl rfl fun ids' w' hp hI' => ⟨(none, 0), rfl, trivial, hI'.frm, rowRes_nil _ _ _, (fun x hx => by cases hx), (fun x hx => by cases hx)⟩
  have hr' : rightH L = true := by simpa using hr
  refine n_callN (fun b : Nat => kmRes intV b (atF L)) 69 (fun b => .tup [.raw (.map (some b)), .lit true]) (fun b => .tuple #[.map (some b), .bool true]) (fun _ => True) rfl rfl rfl (fun _ => rfl) (fun w1 hI1 => (places_ok cap (hI1.res 0 rfl rfl) (hI1.resLt 0 rfl rfl) (by omega) hL64).mono fun e w' h => h.elim (fun h => by rw [hr'] at h; cases h.1) fun ⟨_, b, h1, h2⟩ => ⟨b, h1, trivial, h2⟩) ?_
  intro ab _ hnew
  (refine gs ?_)
  by_cases h12 : 12 < L.length
  · (repeat ((first | refine n_must rfl ?_ | refine n_chk (drawF_ok (by decide +kernel)) ?_ | refine n_same rfl ?_ | ((first | refine n_must ?_ ?_ | refine n_brT ?_ ?_); (focus (first | (simp [h12]; done) | (simp [h12]; omega) | (simp only [h12]; simp; done)))) | (refine n_brF ?_ ?_; (focus (first | (simp [h12]; done) | (simp [h12]; omega) | (simp only [h12]; simp; done)))) | refine n_must (by (with_reducible refine and_shape ?_) <;> kernel_rfl) ?_); (refine gs ?_)))
    have e0 : searchF L = ([], 172) := by rw [searchF, if_neg hr, if_pos h12]
    rw [e0]
    exact n_ret0 rfl rfl fun ids' w' hp hI' => ⟨(none, 0), rfl, trivial, hI'.frm, rowRes_nil _ _ _, (fun x hx => by cases hx), (fun x hx => by cases hx)⟩
  have hN : L.length ≤ 12 := by omega
  (repeat ((first | refine n_must rfl ?_ | refine n_chk (drawF_ok (by decide +kernel)) ?_ | refine n_same rfl ?_ | ((first | refine n_must ?_ ?_ | refine n_brT ?_ ?_); (focus (first | (simp [h12]; done) | (simp [h12]; omega) | (simp only [h12]; simp; done)))) | (refine n_brF ?_ ?_; (focus (first | (simp [h12]; done) | (simp [h12]; omega) | (simp only [h12]; simp; done)))) | refine n_must (by (with_reducible refine and_shape ?_) <;> kernel_rfl) ?_); (refine gs ?_)))
  refine n_makeMap (fun b => vmRes b []) 73 rfl rfl rfl (fun _ => rfl) (fun w b h => MapOf.empty _ _ h) fun vb hvb => ?_
  (refine gs ?_)
  refine gw ?_
  refine n_op1 rfl fun p => ?_
  refine n_makeMap (fun b => smRes b []) 78 rfl rfl rfl (fun _ => rfl) (fun w b h => MapOf.empty _ _ h) fun sb hsb => ?_
  (refine gs ?_)
  refine gw ?_
  refine n_loop (σ := Nat × (Option Addr × Nat) × (Option Addr × Nat) × List (ByteArray × Bool)) (fun t => [(6, .ptr 6 0), (7, .raw (.map (some sb))), (27, .raw (.slice o L.length cap)), (28, .int .i64 (L.length : Nat)), (29, .int .i64 (t.1 : Nat))]) (fun t => [⟨55, [.res (paRes o L)], false⟩, ⟨79, [.res (soRow t.2.1 ((L.take t.1).map sortF))], true⟩, ⟨9, [.res (stRow t.2.2.1 (namesF (L.take t.1)))], true⟩, ⟨3, [.res (oRes (none, 0) [])], true⟩, ⟨69, [.res (kmRes intV ab (atF L))], true⟩, ⟨73, [.res (vmRes vb [])], true⟩, ⟨77, [.raw (.slice o L.length cap), .raw (.slice t.2.1.1 ((L.take t.1).map sortF).length t.2.1.2), .raw (.slice none 0 0), .raw (.slice t.2.2.1.1 (namesF (L.take t.1)).length t.2.2.1.2), .raw (.map (some vb))], true⟩, ⟨78, [.res (smRes sb t.2.2.2)], true⟩]) (fun t => t.1 ≤ L.length ∧ ∀ nm, (mget t.2.2.2 nm).getD false = hasN (namesF (L.take t.1)) nm) (fun t => L.length - t.1) (0, (none, 0), (none, 0), []) mixed ⟨by simp, fun nm => rfl⟩ (fun _ _ => rfl) rfl (by (repeat (first | exact trivial | refine ⟨⟨rfl, rfl⟩, ?_⟩))) (fun s _ => ⟨by (repeat (first | exact trivial | refine ⟨⟨_, rfl⟩, ?_⟩)), by (repeat (first | exact trivial | refine ⟨⟨_, rfl⟩, ?_⟩))⟩) fun t ht => ?_
  obtain ⟨i, ⟨so, sc⟩, ⟨no, nc⟩, m⟩ := t
  obtain ⟨hi, hm⟩ := ht
  dsimp only at hi hm ⊢
  (refine gs ?_)
  by_cases hil : i < L.length
  · have ei : IntKind.i64.wrap ((i : Int) + 1) = ((i + 1 : Nat) : Int) := by rw [w64 (by omega) (by omega)]; simp
    obtain ⟨ad, rfl⟩ := rd_some pa_len (by omega) hR (by omega)
    have hx : L[i]? = some L[i] := List.getElem?_eq_getElem _
    have hq := hg L[i] (List.getElem_mem hil)
    generalize L[i] = q at hx hq
    have hnx := namesF_next hx
    have hso : (L.take (i + 1)).map sortF = (L.take i).map sortF ++ [sortF q] := by rw [take_next hx]; simp
    have hsl : ((L.take i).map sortF).length ≤ 12 := by rw [List.length_map, List.length_take]; omega
    have hnl : (namesF (L.take i)).length ≤ 12 := by have := namesF_len (L.take i); rw [List.length_take] at this; omega
    generalize (L.take i).map sortF = SO at hso hsl
    generalize namesF (L.take i) = NS at hnx hm hnl
    refine gw ?_
    refine n_ldI (.agg q.sv) rfl rfl (fun _ w1 _ hI1 => pa_row (hI1.res 0 rfl rfl) hx rfl) ?_
    (refine gs ?_)
    refine gw ?_
    refine n_sameP (.int .i64 (sortF q)) rfl rfl rfl (fun _ w1 hp1 hI1 => cSort_ok q w1) ?_; (refine gs ?_)
    refine gw ?_
    refine n_build1 rfl rfl elemSort rfl rfl rfl rfl rfl rfl rfl rfl rfl ?_
    (refine gs ?_)
    refine gw ?_
    refine n_append (n := SO.length) (m := 1) (nv := [.int .i64 (sortF q)]) 1 rfl rfl elemSort hiti hpi.1 hpi.2.1 hpi.2.2 rfl (by omega) rfl rfl rfl rfl rfl rfl (by omega) (by simp [Value.oneCell']) (by omega) (by omega) (show ints SO ++ [.int .i64 (sortF q)] = ints (SO ++ [sortF q]) by simp) fun g1 c1 => ?_
    rw [show SO.length + 1 = (SO ++ [sortF q]).length by simp]
    (refine gs ?_)
    refine gw ?_
    refine n_lookup (E := strE) (ev' := boolV) (b := sb) (kr := .str q.nm) (zr := .lit false) (z := .bool false) m q.nm (.bool (hasN NS q.nm)) strK rfl rfl rfl rfl rfl rfl hq.nm rfl rfl (by rw [← hm]; cases mget m q.nm <;> rfl) (fun _ w1 _ hI1 => by exact hI1.res 7 rfl rfl) ?_
    (refine gs ?_)
    cases hct : hasN NS q.nm with
    | true =>
      have hst9 : nmStep NS q = NS := by unfold nmStep; rw [if_pos hct]
      rw [hst9] at hnx
      refine gw ?_
      refine n_again ⟨(i + 1, (some ⟨g1, 0, none⟩, c1), (no, nc), m), ⟨by dsimp only; omega, by dsimp only; rw [hnx]; exact hm⟩, by dsimp only; omega, ?_, ?_⟩
      · dsimp only; exact (by (repeat (first | exact trivial | refine ⟨⟨rfl, rfl⟩, ?_⟩ | refine ⟨⟨rfl, congrArg (SV.int .i64) ei⟩, ?_⟩)))
      · dsimp only; rw [hnx, hso]; exact ⟨_, rfl⟩
    | false =>
      have hst9 : nmStep NS q = NS ++ [q.nm] := by unfold nmStep; rw [if_neg (by rw [hct]; simp)]
      rw [hst9] at hnx
      refine gw ?_
      refine n_mapUpdate (E := strE) (ev' := boolV) (i := 7) (b := sb) (kr := .str q.nm) (vr := .lit true) (ρ := smRes sb m) (smRes sb (mput m q.nm true)) m q.nm true strK rfl rfl rfl rfl rfl rfl hq.nm rfl rfl rfl rfl rfl (by simp [smRes]) rfl (fun _ _ _ _ h => by exact h) (fun _ _ _ _ _ _ _ h => by exact h) ?_
      (refine gs ?_)
      refine gw ?_
      refine n_build1 rfl rfl elemStr rfl rfl rfl rfl rfl rfl rfl rfl rfl ?_
      (refine gs ?_)
      refine gw ?_
      refine n_append (n := NS.length) (m := 1) (nv := [.string q.nm]) 2 rfl rfl elemStr hits hps.1 hps.2.1 hps.2.2 rfl (by omega) rfl rfl rfl rfl rfl rfl (by omega) (by simp [Value.oneCell']) (by omega) (by omega) (show strs NS ++ [.string q.nm] = strs (NS ++ [q.nm]) by simp) fun g2 c2 => ?_
      rw [show NS.length + 1 = (NS ++ [q.nm]).length by simp]
      (refine gs ?_)
      refine gw ?_
      refine n_again ⟨(i + 1, (some ⟨g1, 0, none⟩, c1), (some ⟨g2, 0, none⟩, c2), mput m q.nm true), ⟨by dsimp only; omega, fun nm => ?_⟩, by dsimp only; omega, ?_, ?_⟩
      · dsimp only
        rw [hnx, mget_put, hasN_next]
        by_cases e : q.nm = nm
        · rw [if_pos e, decide_eq_true e]; simp
        · rw [if_neg e, hm, decide_eq_false e, Bool.or_false]
      · dsimp only; exact (by (repeat (first | exact trivial | refine ⟨⟨rfl, rfl⟩, ?_⟩ | refine ⟨⟨rfl, congrArg (SV.int .i64) ei⟩, ?_⟩)))
      · dsimp only; rw [hnx, hso]; exact ⟨_, rfl⟩
  obtain rfl : i = L.length := by omega
  rw [List.take_length]
  refine gw ?_
  refine n_exit rfl ?_
  (refine gs ?_)
  refine gw ?_
  refine n_callX [0] _ rfl (fun w1 hI1 => hI1.gather [6, 3] (ids0 := [p, 0]) (mem0 := nuMem ⟨o, cap, so, sc, none, 0, no, nc, vb⟩ ⟨L, [], namesF L⟩) (.blk rfl rfl rfl rfl (.res rfl .nil)) (by simp) 77) ?_
  refine n_callR (Y := Option Addr × Nat) 8 (ρ := memRes [p, 0] (nuMem ⟨o, cap, so, sc, none, 0, no, nc, vb⟩ ⟨L, [], namesF L⟩)) (fun y => memRes [p, 0] (nuMem ⟨o, cap, so, sc, y.1, y.2, no, nc, vb⟩ (srchOf L))) (fun _ => .tup []) (fun _ => .tuple #[]) (fun _ => True) rfl rfl (fun _ => rfl) rfl rfl rfl (fun _ w1 hp1 hI1 hR1 => number_ok rfl ⟨rfl, rfl⟩ hN (fun p hp => ⟨(hg p hp).a, (hg p hp).va⟩) hR1 (hI1.res 0 rfl rfl) (hI1.resLt 0 rfl rfl) (hI1.res 1 rfl rfl) (hI1.resLt 1 rfl rfl) (hI1.res_res 8 0 (by decide) rfl rfl rfl rfl) (hI1.res_res 8 1 (by decide) rfl rfl rfl rfl) (hI1.res_res 0 1 (by decide) rfl rfl rfl rfl)) ?_
  rintro ⟨d, dc⟩ _
  (refine gs ?_)
  refine gw ?_
  refine n_callN (fun y : Nat × Nat => mapRes y.1 y.2 []) 108 (fun y => .raw (pV y.1)) (fun y => pV y.1) (fun _ => True) rfl rfl rfl (fun _ => rfl) (fun w1 hI1 => New_ok w1) ?_
  rintro ⟨pm, mb0⟩ _ hnew2
  (refine gs ?_)
  refine gw ?_
  have hok := srch_ok hN hg
  refine n_callX ([p, 0] ++ [0]) _ rfl (fun w1 hI1 => by
    have h1 := hI1.spill 8 (ids2 := [p, 0]) (mem2 := nuMem ⟨o, cap, so, sc, d, dc, no, nc, vb⟩ (srchOf L)) rfl rfl rfl (nu_den _ _)
    have h2 := h1.gatherR [10, 0, 1, 11, 2] (ids0 := [p, 0, 0, 0, 0]) (mem0 := srMem ⟨o, cap, so, sc, d, dc, no, nc, vb⟩ (srchOf L)) (.blk rfl rfl rfl rfl (.res rfl (.res rfl (.res rfl (.res rfl .nil))))) (by simp) 77
    rw [← List.append_assoc]
    exact h2) ?_
  refine n_callR (Y := Option Addr × Nat) 5 (ρ := vmRes vb []) (fun y => (vmRes vb (srchR L).2).both (oRes y (ansL (srchR L)))) (fun y => .tup [.raw (.slice y.1 (ansL (srchR L)).length y.2), .bool (srchR L).1.isSome]) (fun y => .tuple #[.slice y.1 (ansL (srchR L)).length y.2, .bool (srchR L).1.isSome]) (fun _ => True) rfl rfl (fun _ => rfl) rfl rfl rfl (fun _ w1 hp1 hI1 hR1 => sFrom_ok (p := p) (a := ⟨o, cap, so, sc, d, dc, no, nc, vb⟩) hok 13 0 (by omega) (by omega) (Nat.lt_of_le_of_lt List.countP_le_length (by rw [List.length_range]; show L.length < 13; omega)) (Same.refl []) (fun x hx => by simp at hx) (hI1.res 12 rfl rfl) (hI1.res 9 rfl rfl) hR1 (hI1.resLt 12 rfl rfl) (hI1.resLt 5 rfl rfl) (hI1.res_res 12 9 (by decide) rfl rfl rfl rfl) (hI1.res_res 12 5 (by decide) rfl rfl rfl rfl) (hI1.res_res 9 5 (by decide) rfl rfl rfl rfl)) ?_
  rintro ⟨yo, yc⟩ _
  have hS : searchF L = match (srchR L).1 with | none => ([], 171) | some l => (l.map fun i : Nat => (i : Int), 0) := by rw [searchF, if_neg hr, if_neg h12]
  generalize srchR L = FR at hS
  obtain ⟨F1, V2⟩ := FR
  dsimp only at hS ⊢
  (refine gs ?_)
  cases F1 with
  | none =>
    refine gw ?_
    rw [hS]
    exact n_ret0 rfl rfl fun ids' w' hp hI' => ⟨(none, 0), rfl, trivial, hI'.frm, rowRes_nil _ _ _, (fun x hx => by cases hx), (fun x hx => by cases hx)⟩
  | some l =>
    refine gw ?_
    rw [hS]
    exact n_ret0 rfl rfl fun ids' w' hp hI' => ⟨(yo, yc), rfl, trivial, hI'.frm, (hI'.res 5 rfl rfl).2.1, (fun x hx => hI'.res_new 5 rfl rfl rfl (by simp) x (List.mem_append_right _ hx)), (fun x hx => hI'.resLt 5 rfl rfl x (List.mem_append_right _ hx))⟩
end Go.Proofs.Ytfcbcgjgkleonaa
