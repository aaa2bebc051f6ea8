/- Chapter 17's law: what was answered is kept: fill, hold. Chapter 17's law: put, both ways. Chapter 17's law: whole, lately. Chapter 17's law: lately. -/
import Derived.Test.YtfcbcgjgkleonaaBnU
import Derived.Test.YtfcbcgjgkleonaaCkW
namespace Go.Proofs.Ytfcbcgjgkleonaa
section
set_option maxRecDepth 100000
set_option linter.unusedSimpArgs false
set_option linter.unusedVariables false
set_option maxHeartbeats 8000000
open Go.RowKit

abbrev slsV (x : Option Addr × Nat × Nat) : Value := .slice x.1 x.2.1 x.2.2
abbrev marks (m : Int) (n : Nat) : List Value := List.replicate n (.int .i64 (-1 - m))
theorem marks_len (m : Int) (n : Nat) : (marks m n).length = n := by simp
theorem marks_next (m : Int) (n : Nat) : marks m n ++ [.int .i64 (-1 - m)] = marks m (n + 1) := by simp [List.replicate_succ']
theorem marks_pre (m : Int) {n k : Nat} (h : n ≤ k) : marks m n <+: marks m k := by
  refine ⟨marks m (k - n), ?_⟩
  rw [List.replicate_append_replicate]
  congr 1; omega
theorem elemSl : sliceElem Try.prog 29 = some 30 := by kernel_rfl
theorem infoSl : (Try.prog.info? 30).map (fun i => (i.zero, i.size, i.bytes)) = some (some (.slice none 0 0), 1, 24) := by kernel_rfl
theorem sizeInt17 : sizeB Try.prog 3 = some 1 := by kernel_rfl
abbrev iRow (o : Option Addr) (n cap : Nat) (xs : List Value) : Res := rowRes 3 1 o n cap xs
theorem kfill_ok {o : Option Addr} {n cap : Nat} {l : List Value} {m : Int} {w : World} (hl : l.length = n) (hm : 0 ≤ m ∧ m ≤ 1099511627776) (hn : n ≤ 1099511627776) (hR : (iRow o n cap l).R w) :
    Calls Try.prog 34 #[.slice o n cap, .int .i64 m] w fun e w' => e = .returned (.tuple #[]) ∧ Post (iRow o n cap l) (iRow o n cap (marks m n)) w w' := by
  have hI : Inv (cx 16 [] (iRow o n cap l).fp w) w [0] [⟨3, [.res (iRow o n cap l)], true⟩] := (Inv.nil w).consR (by simp) hR (rowRes_lt hR) (by simp)
  refine calls_sm (cx 16 [] (iRow o n cap l).fp w) (vals := [.raw (.slice o n cap), .int .i64 m]) mixed Try.func34 rfl rfl rfl hI rfl (st rfl ?_); conv => arg 3; whnf
  refine gw ?_
  refine n_loop (σ := Nat) (fun i => [(0, .raw (.slice o n cap)), (1, .int .i64 m), (4, .int .i64 (i : Nat))]) (fun i => [⟨3, [.res (iRow o n cap (marks m i ++ l.drop i))], true⟩]) (fun i => i ≤ n) (fun i => n - i) 0 mixed (by omega) (fun _ _ => rfl) (by simp) (by (repeat (first | exact trivial | refine ⟨⟨rfl, rfl⟩, ?_⟩))) (fun s _ => ⟨by (repeat (first | exact trivial | refine ⟨⟨_, rfl⟩, ?_⟩)), by (repeat (first | exact trivial | refine ⟨⟨_, rfl⟩, ?_⟩))⟩) fun i hi => ?_
  (refine gs ?_)
  by_cases hil : i < n
  · have ei : IntKind.i64.wrap ((i : Int) + 1) = ((i + 1 : Nat) : Int) := by rw [w64 (by omega) (by omega)]; simp
    have em : IntKind.i64.wrap (-1 - m) = -1 - m := w64 (by omega) (by omega)
    obtain ⟨g, rfl⟩ := rowRes_some' hR (by omega)
    refine gw ?_
    refine n_storeRow (g := g) (off := i) (k := 1) (rv := .int .i64 (IntKind.i64.wrap (-1 - m))) (v := .int .i64 (IntKind.i64.wrap (-1 - m))) 0 (marks m (i + 1) ++ l.drop (i + 1)) rfl rfl rfl ((show _ = (⟨g, 0, none⟩ : Addr).add (i * 1) from rfl).trans (by rw [add_mk, Nat.mul_one])) rfl rfl sizeInt17 rfl rfl rfl (by simp; omega) ?_ ?_
    · rw [em, List.take_append_of_le_length (by simp), List.take_of_length_le (by simp), List.drop_append, List.drop_of_length_le (by simp), List.nil_append, List.drop_drop, marks_len, show i + (i + 1 - i) = i + 1 by omega]
      rw [← marks_next]
      rfl
    (refine gs ?_)
    refine gw ?_
    exact n_again ⟨i + 1, by omega, by omega, (by (repeat (first | exact trivial | refine ⟨⟨rfl, rfl⟩, ?_⟩ | refine ⟨⟨rfl, congrArg (SV.int .i64) ei⟩, ?_⟩))), ⟨_, rfl⟩⟩
  · obtain rfl : i = n := by omega
    refine gw ?_
    refine n_exit rfl ?_
    (refine gs ?_)
    refine n_end0 rfl rfl fun ids' w' hp hI' => ⟨rfl, ?_⟩
    have h := post_res (ρ := iRow o i cap l) (ρ' := iRow o i cap (marks m i ++ l.drop i)) hI' rfl 0 rfl rfl rfl
    rwa [List.drop_of_length_le (by omega), List.append_nil] at h

/-! ### A keep whose lists are marked -/
structure Kp where
  lo : Option Addr
  lc : Nat
  Ls : List (Option Addr × Nat × Nat)
  mo : Option Addr
  mc : Nat
  Ms : List Int
  G : List (Option Addr × List Value)
abbrev lsRow (o : Option Addr) (c : Nat) (L : List (Option Addr × Nat × Nat)) : Res := rowRes 30 1 o L.length c (L.map slsV)
abbrev msRow (o : Option Addr) (c : Nat) (L : List Int) : Res := rowRes 3 1 o L.length c (ints L)
abbrev kpMem (K : Kp) : Mem := [⟨32, [.lit false, .raw (.slice K.lo K.Ls.length K.lc), .raw (.slice none 0 0), .raw (.slice K.mo K.Ms.length K.mc)], true⟩, ⟨30, [.res (lsRow K.lo K.lc K.Ls)], true⟩, ⟨3, [.res (msRow K.mo K.mc K.Ms)], true⟩, ⟨3, [.res (rdsRes K.G)], true⟩]
abbrev kpRes (p : Nat) (K : Kp) : Res := memRes [p, 0, 0, 0] (kpMem K)
/-- Every list is full of its mark. -/
def Full (Ls : List (Option Addr × Nat × Nat)) (Ms : List Int) (G : List (Option Addr × List Value)) : Prop :=
  Ls.length = Ms.length ∧ (∀ (i : Nat) (x : Option Addr × Nat × Nat) (m : Int), Ls[i]? = some x → Ms[i]? = some m → ∃ y ∈ G, y.1 = x.1 ∧ marks m x.2.1 <+: y.2) ∧ (∀ m ∈ Ms, 0 ≤ m ∧ m ≤ 1099511627776) ∧ ∀ x ∈ Ls, x.2.1 ≤ 1099511627776
theorem Full.mono {Ls : List (Option Addr × Nat × Nat)} {Ms : List Int} {G G' : List (Option Addr × List Value)} (h : Full Ls Ms G) (hG : ∀ y ∈ G, ∃ z ∈ G', z.1 = y.1 ∧ y.2 <+: z.2) : Full Ls Ms G' :=
  ⟨h.1, fun i x m hx hm => by
    obtain ⟨y, hy, e, hp⟩ := h.2.1 i x m hx hm
    obtain ⟨z, hz, e2, hp2⟩ := hG y hy
    exact ⟨z, hz, e2.trans e, hp.trans hp2⟩, h.2.2⟩
theorem Full.add {Ls : List (Option Addr × Nat × Nat)} {Ms : List Int} {G : List (Option Addr × List Value)} (h : Full Ls Ms G) {x : Option Addr × Nat × Nat} {m : Int} (hm : 0 ≤ m ∧ m ≤ 1099511627776) (hx : x.2.1 ≤ 1099511627776) (hG : ∃ y ∈ G, y.1 = x.1 ∧ marks m x.2.1 <+: y.2) : Full (Ls ++ [x]) (Ms ++ [m]) G := by
  obtain ⟨h1, h2, h3, h4⟩ := h
  refine ⟨by simp [h1], fun i x' m' hx' hm' => ?_, fun m' hm' => ?_, fun x' hx' => ?_⟩
  · rcases Nat.lt_or_ge i Ls.length with hi | hi
    · rw [List.getElem?_append_left hi] at hx'
      rw [List.getElem?_append_left (by omega)] at hm'
      exact h2 i x' m' hx' hm'
    · have hi0 : i = Ls.length := by have := (List.getElem?_eq_some_iff.1 hx').1; simp at this; omega
      subst hi0
      simp at hx'
      rw [h1] at hm'
      simp at hm'
      subst hx'; subst hm'
      exact hG
  · rcases List.mem_append.1 hm' with h | h
    · exact h3 _ h
    · simp at h; subst h; exact hm
  · rcases List.mem_append.1 hx' with h | h
    · exact h4 _ h
    · simp at h; subst h; exact hx
def Kp.ok (K : Kp) : Prop := Full K.Ls K.Ms K.G
structure Hs where
  i : Nat
  lo : Option Addr
  lc : Nat
  Ls : List (Option Addr × Nat × Nat)
  mo : Option Addr
  mc : Nat
  Ms : List Int
  fo : Option Addr
  fc : Nat
  G : List (Option Addr × List Value)
theorem khold_ok {p : Nat} {K : Kp} {o : Option Addr} {n cap : Nat} {m : Int} {w : World} (hm : 0 ≤ m ∧ m ≤ 1099511627776) (hn : n ≤ 10995116277) (hK : K.ok) (hKl : K.Ls.length ≤ 1099511627776) (hR : ((kpRes p K).both (iRow o n cap (marks m n))).R w) :
    Calls Try.prog 35 #[pV p, .slice o n cap, .int .i64 m] w fun e w' => ∃ K' : Kp, e = .returned (.tuple #[]) ∧ (K'.ok ∧ K'.Ls.length ≤ K.Ls.length + 41) ∧ Post ((kpRes p K).both (iRow o n cap (marks m n))) (kpRes p K') w w' := by
  have hlen := hK.1
  obtain ⟨hRk, hRl, hap⟩ := hR
  obtain ⟨its, hits, hps⟩ := Option.map_eq_some_iff.1 infoSl
  simp only [Prod.mk.injEq] at hps
  obtain ⟨iti, hiti, hpi⟩ := Option.map_eq_some_iff.1 infoInt
  simp only [Prod.mk.injEq] at hpi
  have hI0 : Inv (cx 64 [] ((kpRes p K).both (iRow o n cap (marks m n))).fp w) w [p, 0, 0, 0] (kpMem K) := memRes_open hRk fun x hx => List.mem_append.2 (.inl hx)
  have hI := hI0.consR (t := 3) (rw_ := true) (r := iRow o n cap (marks m n)) (fun x hx hx' => hap x hx' hx) hRl (rowRes_lt hRl) (fun _ x hx => List.mem_append.2 (.inr hx))
  have em : IntKind.i64.wrap (-1 - m) = -1 - m := w64 (by omega) (by omega)
  have hf0 : Full (K.Ls ++ [(o, n, cap)]) (K.Ms ++ [m]) ((o, marks m n) :: K.G) := (Full.mono hK fun y hy => ⟨y, by simp [hy], rfl, List.prefix_refl _⟩).add hm (by dsimp only; omega) ⟨_, List.mem_cons_self, rfl, List.prefix_refl _⟩
  refine calls_sm (cx 64 [] ((kpRes p K).both (iRow o n cap (marks m n))).fp w) (vals := [.ptr 0 0, .raw (.slice o n cap), .int .i64 m]) mixed Try.func35 rfl rfl rfl hI rfl (st rfl ?_); conv => arg 3; whnf
  refine gw ?_
  refine n_build1 rfl rfl elemSl rfl rfl rfl rfl rfl rfl rfl rfl rfl ?_
  (refine gs ?_)
  refine gw ?_
  refine n_append (nv := [slsV (o, n, cap)]) 1 rfl rfl elemSl hits hps.1 hps.2.1 hps.2.2 rfl (by omega) rfl rfl rfl rfl rfl rfl (by omega) (by simp [Value.oneCell']) (by omega) (by omega) (show K.Ls.map slsV ++ [slsV (o, n, cap)] = (K.Ls ++ [(o, n, cap)]).map slsV by simp) fun g1 c1 => ?_
  (refine gs ?_)
  refine gw ?_
  refine n_build1 rfl rfl elemInt rfl rfl rfl rfl rfl rfl rfl rfl rfl ?_
  (refine gs ?_)
  refine gw ?_
  refine n_append (nv := [.int .i64 m]) 2 rfl rfl elemInt hiti hpi.1 hpi.2.1 hpi.2.2 rfl (by omega) rfl rfl rfl rfl rfl rfl (by omega) (by simp [Value.oneCell']) (by omega) (by omega) (show ints K.Ms ++ [.int .i64 m] = ints (K.Ms ++ [m]) by simp) fun g2 c2 => ?_
  (refine gs ?_)
  refine gw ?_
  refine n_loopI _ (fun _ _ _ hI1 => hI1.absorb 3 4 (by decide) rfl rfl rfl rfl rfl rfl) ?_
  refine n_loop2 rfl fun b5 b6 => ?_
  have e1 : (K.Ls ++ [(o, n, cap)]).length = K.Ls.length + 1 := by simp
  have e2 : (K.Ms ++ [m]).length = K.Ms.length + 1 := by simp
  rw [← e1, ← e2]
  refine n_loop (σ := Hs) (fun t => [(0, .ptr 0 0), (2, .int .i64 m), (6, .raw (.slice t.fo (n + t.i) t.fc)), (7, .int .i64 (t.i : Nat))]) (fun t => [⟨32, [.lit false, .raw (.slice (t).lo (t).Ls.length (t).lc), .raw (.slice none 0 0), .raw (.slice (t).mo (t).Ms.length (t).mc)], true⟩, ⟨30, [.res (lsRow (t).lo (t).lc (t).Ls)], true⟩, ⟨3, [.res (msRow (t).mo (t).mc (t).Ms)], true⟩, ⟨3, [.res (growRes 3 1 (t).fo (n + (t).i) (t).fc (marks m (n + (t).i)) (t).G)], true⟩, ⟨3, [.res Res.none], true⟩, ⟨30, [.raw (.slice o n cap)], true⟩, ⟨3, [.int .i64 m], true⟩]) (fun t => t.i ≤ 40 ∧ t.Ls.length ≤ K.Ls.length + 1 + t.i ∧ Full t.Ls t.Ms ((t.fo, marks m (n + t.i)) :: t.G)) (fun t => 40 - t.i) ⟨0, some ⟨g1, 0, none⟩, c1, K.Ls ++ [(o, n, cap)], some ⟨g2, 0, none⟩, c2, K.Ms ++ [m], o, cap, K.G⟩ mixed ⟨by dsimp only; omega, by dsimp only; omega, hf0⟩ (fun _ _ => rfl) rfl (by (repeat (first | exact trivial | refine ⟨⟨rfl, rfl⟩, ?_⟩))) (fun s _ => ⟨by (repeat (first | exact trivial | refine ⟨⟨_, rfl⟩, ?_⟩)), by (repeat (first | exact trivial | refine ⟨⟨_, rfl⟩, ?_⟩))⟩) fun t ht => ?_
  obtain ⟨i, lo, lc, Ls, mo, mc, Ms, fo, fc, G⟩ := t
  obtain ⟨hi, hl, hf⟩ := ht
  dsimp only at hi hl hf ⊢
  have hlen2 := hf.1
  (refine gs ?_)
  by_cases hil : i < 40
  · have ei : IntKind.i64.wrap ((i : Int) + 1) = ((i + 1 : Nat) : Int) := by rw [w64 (by omega) (by omega)]; simp
    (repeat ((first | refine n_must rfl ?_ | refine n_chk (drawF_ok (by decide +kernel)) ?_ | refine n_same rfl ?_ | ((first | refine n_must ?_ ?_ | refine n_brT ?_ ?_); (focus (first | (simp [hil]; done) | (simp [hil]; omega) | (simp only [hil]; simp; done)))) | (refine n_brF ?_ ?_; (focus (first | (simp [hil]; done) | (simp [hil]; omega) | (simp only [hil]; simp; done)))) | refine n_must (by (with_reducible refine and_shape ?_) <;> kernel_rfl) ?_); (refine gs ?_)))
    refine n_build1 rfl rfl elemInt rfl rfl rfl rfl rfl rfl rfl rfl rfl ?_
    (refine gs ?_)
    refine gw ?_
    refine n_appendK (nv := [.int .i64 (IntKind.i64.wrap (-1 - m))]) 3 rfl rfl elemInt hiti hpi.1 hpi.2.1 hpi.2.2 rfl (by omega) rfl rfl rfl rfl rfl rfl (by omega) (by simp [Value.oneCell']) (by omega) (by omega) (show marks m (n + i) ++ [.int .i64 (IntKind.i64.wrap (-1 - m))] = marks m (n + (i + 1)) by rw [em, marks_next]; rfl) fun g3 c3 G' hG' => ?_
    have hf1 : Full Ls Ms ((some ⟨g3, 0, none⟩, marks m (n + (i + 1))) :: G') := Full.mono hf fun y hy => by
      rcases List.mem_cons.1 hy with rfl | hy
      · rcases hG' with ⟨e, rfl⟩ | rfl
        · exact ⟨_, List.mem_cons_self, e.symm, marks_pre m (by omega)⟩
        · exact ⟨(fo, marks m (n + i)), by simp, rfl, List.prefix_refl _⟩
      · rcases hG' with ⟨e, rfl⟩ | rfl
        · exact ⟨y, by simp [hy], rfl, List.prefix_refl _⟩
        · exact ⟨y, by simp [hy], rfl, List.prefix_refl _⟩
    have hf2 : Full (Ls ++ [(some ⟨g3, 0, none⟩, n + i + 1, c3)]) (Ms ++ [m]) ((some ⟨g3, 0, none⟩, marks m (n + (i + 1))) :: G') := hf1.add hm (by dsimp only; omega) ⟨_, List.mem_cons_self, rfl, List.prefix_refl _⟩
    (refine gs ?_)
    by_cases h16 : i < 16
    · (repeat ((first | refine n_must rfl ?_ | refine n_chk (drawF_ok (by decide +kernel)) ?_ | refine n_same rfl ?_ | ((first | refine n_must ?_ ?_ | refine n_brT ?_ ?_); (focus (first | (simp [h16]; done) | (simp [h16]; omega) | (simp only [h16]; simp; done)))) | (refine n_brF ?_ ?_; (focus (first | (simp [h16]; done) | (simp [h16]; omega) | (simp only [h16]; simp; done)))) | refine n_must (by (with_reducible refine and_shape ?_) <;> kernel_rfl) ?_); (refine gs ?_)))
      refine n_build1 rfl rfl elemSl rfl rfl rfl rfl rfl rfl rfl rfl rfl ?_
      (refine gs ?_)
      refine gw ?_
      refine n_append (nv := [slsV (some ⟨g3, 0, none⟩, n + i + 1, c3)]) 1 rfl rfl elemSl hits hps.1 hps.2.1 hps.2.2 rfl (by omega) rfl rfl rfl rfl rfl rfl (by omega) (by simp [Value.oneCell']) (by omega) (by omega) (show Ls.map slsV ++ [slsV (some (⟨g3, 0, none⟩ : Addr), n + i + 1, c3)] = (Ls ++ [(some (⟨g3, 0, none⟩ : Addr), n + i + 1, c3)]).map slsV by simp) fun g4 c4 => ?_
      (refine gs ?_)
      refine gw ?_
      refine n_build1 rfl rfl elemInt rfl rfl rfl rfl rfl rfl rfl rfl rfl ?_
      (refine gs ?_)
      refine gw ?_
      refine n_append (nv := [.int .i64 m]) 2 rfl rfl elemInt hiti hpi.1 hpi.2.1 hpi.2.2 rfl (by omega) rfl rfl rfl rfl rfl rfl (by omega) (by simp [Value.oneCell']) (by omega) (by omega) (show ints Ms ++ [.int .i64 m] = ints (Ms ++ [m]) by simp) fun g5 c5 => ?_
      (refine gs ?_)
      refine gw ?_
      have l1 : (Ls ++ [(some (⟨g3, 0, none⟩ : Addr), n + i + 1, c3)]).length = Ls.length + 1 := by simp
      have l2 : (Ms ++ [m]).length = Ms.length + 1 := by simp
      rw [← l1, ← l2]
      exact n_again ⟨⟨i + 1, some ⟨g4, 0, none⟩, c4, Ls ++ [(some ⟨g3, 0, none⟩, n + i + 1, c3)], some ⟨g5, 0, none⟩, c5, Ms ++ [m], some ⟨g3, 0, none⟩, c3, G'⟩, ⟨by dsimp only; omega, by dsimp only; omega, hf2⟩, by dsimp only; omega, (by (repeat (first | exact trivial | refine ⟨⟨rfl, rfl⟩, ?_⟩ | refine ⟨⟨rfl, congrArg (SV.int .i64) ei⟩, ?_⟩))), ⟨_, rfl⟩⟩
    by_cases h39 : i = 39
    · (repeat ((first | refine n_must rfl ?_ | refine n_chk (drawF_ok (by decide +kernel)) ?_ | refine n_same rfl ?_ | ((first | refine n_must ?_ ?_ | refine n_brT ?_ ?_); (focus (first | (simp [h16, h39]; done) | (simp [h16, h39]; omega) | (simp only [h16, h39]; simp; done)))) | (refine n_brF ?_ ?_; (focus (first | (simp [h16, h39]; done) | (simp [h16, h39]; omega) | (simp only [h16, h39]; simp; done)))) | refine n_must (by (with_reducible refine and_shape ?_) <;> kernel_rfl) ?_); (refine gs ?_)))
      refine n_build1 rfl rfl elemSl rfl rfl rfl rfl rfl rfl rfl rfl rfl ?_
      (refine gs ?_)
      refine gw ?_
      refine n_append (nv := [slsV (some ⟨g3, 0, none⟩, n + i + 1, c3)]) 1 rfl rfl elemSl hits hps.1 hps.2.1 hps.2.2 rfl (by omega) rfl rfl rfl rfl rfl rfl (by omega) (by simp [Value.oneCell']) (by omega) (by omega) (show Ls.map slsV ++ [slsV (some (⟨g3, 0, none⟩ : Addr), n + i + 1, c3)] = (Ls ++ [(some (⟨g3, 0, none⟩ : Addr), n + i + 1, c3)]).map slsV by simp) fun g4 c4 => ?_
      (refine gs ?_)
      refine gw ?_
      refine n_build1 rfl rfl elemInt rfl rfl rfl rfl rfl rfl rfl rfl rfl ?_
      (refine gs ?_)
      refine gw ?_
      refine n_append (nv := [.int .i64 m]) 2 rfl rfl elemInt hiti hpi.1 hpi.2.1 hpi.2.2 rfl (by omega) rfl rfl rfl rfl rfl rfl (by omega) (by simp [Value.oneCell']) (by omega) (by omega) (show ints Ms ++ [.int .i64 m] = ints (Ms ++ [m]) by simp) fun g5 c5 => ?_
      (refine gs ?_)
      refine gw ?_
      have l1 : (Ls ++ [(some (⟨g3, 0, none⟩ : Addr), n + i + 1, c3)]).length = Ls.length + 1 := by simp
      have l2 : (Ms ++ [m]).length = Ms.length + 1 := by simp
      rw [← l1, ← l2]
      exact n_again ⟨⟨i + 1, some ⟨g4, 0, none⟩, c4, Ls ++ [(some ⟨g3, 0, none⟩, n + i + 1, c3)], some ⟨g5, 0, none⟩, c5, Ms ++ [m], some ⟨g3, 0, none⟩, c3, G'⟩, ⟨by dsimp only; omega, by dsimp only; omega, hf2⟩, by dsimp only; omega, (by (repeat (first | exact trivial | refine ⟨⟨rfl, rfl⟩, ?_⟩ | refine ⟨⟨rfl, congrArg (SV.int .i64) ei⟩, ?_⟩))), ⟨_, rfl⟩⟩
    (repeat ((first | refine n_must rfl ?_ | refine n_chk (drawF_ok (by decide +kernel)) ?_ | refine n_same rfl ?_ | ((first | refine n_must ?_ ?_ | refine n_brT ?_ ?_); (focus (first | (simp [h16, h39]; done) | (simp [h16, h39]; omega) | (simp only [h16, h39]; simp; done)))) | (refine n_brF ?_ ?_; (focus (first | (simp [h16, h39]; done) | (simp [h16, h39]; omega) | (simp only [h16, h39]; simp; done)))) | refine n_must (by (with_reducible refine and_shape ?_) <;> kernel_rfl) ?_); (refine gs ?_)))
    exact n_again ⟨⟨i + 1, lo, lc, Ls, mo, mc, Ms, some ⟨g3, 0, none⟩, c3, G'⟩, ⟨by dsimp only; omega, by dsimp only; omega, hf1⟩, by dsimp only; omega, (by (repeat (first | exact trivial | refine ⟨⟨rfl, rfl⟩, ?_⟩ | refine ⟨⟨rfl, congrArg (SV.int .i64) ei⟩, ?_⟩))), ⟨_, rfl⟩⟩
  · obtain rfl : i = 40 := by omega
    refine gw ?_
    refine n_exit rfl ?_
    (refine gs ?_)
    refine n_end0 rfl rfl fun ids' w' hp hI' => ⟨⟨lo, lc, Ls, mo, mc, Ms, (fo, marks m (n + 40)) :: G⟩, rfl, ⟨hf, by dsimp only; omega⟩, ?_⟩
    have hI2 := hI'.lessR 3 rfl rfl rfl grow_end
    exact post_shut (ρ := (kpRes p K).both (iRow o n cap (marks m n))) hI2 rfl [0, 1, 2, 3] (.blk rfl (pre_at hp rfl) rfl rfl (.res rfl (.res rfl (.res rfl .nil)))) (by decide)
end
section
set_option maxRecDepth 100000
set_option linter.unusedSimpArgs false
set_option linter.unusedVariables false
set_option maxHeartbeats 8000000
open Go.RowKit

theorem aggBool17 : aggB Try.prog 4 = some false := by kernel_rfl
theorem aggInts17 : aggB Try.prog 30 = some false := by kernel_rfl
theorem aggIntss17 : aggB Try.prog 29 = some false := by kernel_rfl
theorem kput_ok {p : Nat} {K : Kp} {o : Option Addr} {n cap : Nat} {l : List Value} {w : World} (hl : l.length = n) (hn : n ≤ 10995116277) (hK : K.ok) (hKl : K.Ls.length ≤ 1099511627776) (hR : ((kpRes p K).both (iRow o n cap l)).R w) :
    Calls Try.prog 12 #[pV p, .slice o n cap] w fun e w' => ∃ K' : Kp, e = .returned (.tuple #[]) ∧ (K'.ok ∧ K'.Ls.length ≤ K.Ls.length + 41) ∧ Post ((kpRes p K).both (iRow o n cap l)) (kpRes p K') w w' := by
  have hlen := hK.1
  obtain ⟨hRk, hRl, hap⟩ := hR
  have hI0 : Inv (cx 42 [(2, .of [(0, []), (1, []), (2, []), (3, []), (4, []), (5, []), (6, [4]), (7, [4]), (8, []), (9, []), (10, []), (11, [])])] ((kpRes p K).both (iRow o n cap l)).fp w) w [0] [⟨32, [.res (kpRes p K)], true⟩] := (Inv.nil w).consR (by simp) hRk (memRes_lt hRk) (fun _ x hx => List.mem_append.2 (.inl hx))
  have hI := hI0.consR (t := 3) (rw_ := true) (r := iRow o n cap l) (fun x hx hx' => hap x (by simpa [fpsOf, resOf] using hx') hx) hRl (rowRes_lt hRl) (fun _ x hx => List.mem_append.2 (.inr hx))
  refine calls_sm (cx 42 [(2, .of [(0, []), (1, []), (2, []), (3, []), (4, []), (5, []), (6, [4]), (7, [4]), (8, []), (9, []), (10, []), (11, [])])] ((kpRes p K).both (iRow o n cap l)).fp w) (vals := [.raw (pV p), .raw (.slice o n cap)]) mixed Try.func12 rfl rfl rfl hI rfl (st rfl ?_); conv => arg 3; whnf
  refine gw ?_
  refine n_ldI (.lit false) rfl rfl (fun _ w1 _ hI1 => load_cell aggBool17 (blk_at (memRes_blk (hI1.res 0 rfl rfl) 0 rfl rfl rfl) (j := 0) rfl rfl)) ?_
  (refine gs ?_)
  refine gw ?_
  refine n_ldI (.raw (.slice K.mo K.Ms.length K.mc)) rfl rfl (fun _ w1 _ hI1 => load_cell aggInts17 (blk_at (memRes_blk (hI1.res 0 rfl rfl) 0 rfl rfl rfl) (j := 3) rfl rfl)) ?_
  (refine gs ?_)
  refine gw ?_
  refine n_callR (Y := Unit) 1 (fun _ => iRow o n cap (marks K.Ms.length n)) (fun _ => .tup []) (fun _ => .tuple #[]) (fun _ => True) rfl rfl (fun _ => rfl) rfl rfl rfl (fun _ w1 _ hI1 hR1 => (kfill_ok hl (by omega) (by omega) hR1).mono fun e w' ⟨he, hf⟩ => ⟨(), he, trivial, hf⟩) ?_
  intro _ _
  (refine gs ?_)
  refine gw ?_
  refine n_callX [] _ rfl (fun w1 hI1 => by rw [List.append_nil]; exact hI1.absorb 0 1 (by decide) rfl rfl rfl rfl rfl rfl) ?_
  refine n_callR (Y := Kp) 0 (fun K' => kpRes p K') (fun _ => .tup []) (fun _ => .tuple #[]) (fun K' => K'.ok ∧ K'.Ls.length ≤ K.Ls.length + 41) rfl rfl (fun _ => rfl) rfl rfl rfl (fun _ w1 _ hI1 hR1 => khold_ok (by omega) hn hK hKl hR1) ?_
  intro K' hK'
  (refine gs ?_)
  refine gw ?_
  refine n_end0 rfl rfl fun ids' w' hp hI' => ⟨K', rfl, hK', ?_⟩
  exact post_res (ρ := (kpRes p K).both (iRow o n cap l)) (ρ' := kpRes p K') hI' rfl 0 rfl rfl rfl

/-! ### A keep whose lists are left as they are -/
structure Le where
  o : Option Addr
  cap : Nat
  xs : List Int
  o2 : Option Addr
  c2 : Nat
structure Kl where
  lo : Option Addr
  lc : Nat
  wo : Option Addr
  wc : Nat
  E : List Le
abbrev Le.s1 (e : Le) : Value := .slice e.o e.xs.length e.cap
abbrev Le.s2 (e : Le) : Value := .slice e.o2 e.xs.length e.c2
abbrev Le.res (e : Le) : Res := iRow e.o e.xs.length e.cap (ints e.xs)
abbrev svRow (o : Option Addr) (n c : Nat) (L : List Value) : Res := rowRes 30 1 o n c L
abbrev Kl.G (E : List Le) : List (Option Addr × List Value) := E.map fun e => (e.o2, ints e.xs)
abbrev klMem (K : Kl) : Mem := [⟨32, [.lit true, .raw (.slice K.lo K.E.length K.lc), .raw (.slice K.wo K.E.length K.wc), .raw (.slice none 0 0)], true⟩, ⟨30, [.res (svRow K.lo K.E.length K.lc (K.E.map Le.s1))], true⟩, ⟨30, [.res (svRow K.wo K.E.length K.wc (K.E.map Le.s2))], true⟩, ⟨3, [.res (allRes (K.E.map Le.res))], true⟩, ⟨3, [.res (rdsRes (Kl.G K.E))], true⟩]
abbrev klRes (p : Nat) (K : Kl) : Res := memRes [p, 0, 0, 0, 0] (klMem K)
theorem rds_add {E : List Le} {e : Le} {w : World} (h : ((rdsRes (Kl.G E)).both (iRow e.o2 e.xs.length e.c2 (ints e.xs))).R w) : (rdsRes (Kl.G (E ++ [e]))).R w ∧ ∀ x ∈ (rdsRes (Kl.G (E ++ [e]))).fp, x ∈ ((rdsRes (Kl.G E)).both (iRow e.o2 e.xs.length e.c2 (ints e.xs))).fp := by
  obtain ⟨h1, h2, _⟩ := h
  have hmem : ∀ y ∈ Kl.G (E ++ [e]), y ∈ Kl.G E ∨ y = (e.o2, ints e.xs) := by
    intro y hy
    simp only [Kl.G, List.map_append, List.mem_append] at hy
    rcases hy with hy | hy
    · exact .inl hy
    · exact .inr (by simpa using hy)
  refine ⟨fun y hy => ?_, fun x hx => ?_⟩
  · rcases hmem y hy with hy | rfl
    · exact h1 y hy
    · exact rd_of_row h2
  · obtain ⟨y, hy, hx⟩ := List.mem_flatMap.1 hx
    rcases hmem y hy with hy | rfl
    · exact List.mem_append.2 (.inl (List.mem_flatMap.2 ⟨y, hy, hx⟩))
    · exact List.mem_append.2 (.inr (rd_inR hx))
theorem lput_ok {p : Nat} {K : Kl} {o : Option Addr} {cap : Nat} {xs : List Int} {w : World} (hn : xs.length ≤ 10995116277) (hKl : K.E.length ≤ 1099511627776) (hR : ((klRes p K).both (iRow o xs.length cap (ints xs))).R w) :
    Calls Try.prog 12 #[pV p, .slice o xs.length cap] w fun e w' => ∃ K' : Kl, e = .returned (.tuple #[]) ∧ (∃ e : Le, e.xs = xs ∧ K'.E = K.E ++ [e]) ∧ Post ((klRes p K).both (iRow o xs.length cap (ints xs))) (klRes p K') w w' := by
  obtain ⟨hRk, hRl, hap⟩ := hR
  obtain ⟨its, hits, hps⟩ := Option.map_eq_some_iff.1 infoSl
  simp only [Prod.mk.injEq] at hps
  obtain ⟨iti, hiti, hpi⟩ := Option.map_eq_some_iff.1 infoInt
  simp only [Prod.mk.injEq] at hpi
  have hI0 : Inv (cx 42 [(2, .of [(0, []), (1, []), (2, []), (3, []), (4, []), (5, []), (6, [4]), (7, [4]), (8, []), (9, []), (10, []), (11, [])])] ((klRes p K).both (iRow o xs.length cap (ints xs))).fp w) w [p, 0, 0, 0, 0] (klMem K) := memRes_open hRk fun x hx => List.mem_append.2 (.inl hx)
  have hI := hI0.consR (t := 3) (rw_ := true) (r := iRow o xs.length cap (ints xs)) (fun x hx hx' => hap x hx' hx) hRl (rowRes_lt hRl) (fun _ x hx => List.mem_append.2 (.inr hx))
  refine calls_sm (cx 42 [(2, .of [(0, []), (1, []), (2, []), (3, []), (4, []), (5, []), (6, [4]), (7, [4]), (8, []), (9, []), (10, []), (11, [])])] ((klRes p K).both (iRow o xs.length cap (ints xs))).fp w) (vals := [.ptr 0 0, .raw (.slice o xs.length cap)]) mixed Try.func12 rfl rfl rfl hI rfl (st rfl ?_); conv => arg 3; whnf
  refine gw ?_
  refine n_build1 rfl rfl elemSl rfl rfl rfl rfl rfl rfl rfl rfl rfl ?_
  (refine gs ?_)
  refine gw ?_
  refine n_append (nv := [.slice o xs.length cap]) 1 rfl rfl elemSl hits hps.1 hps.2.1 hps.2.2 rfl (by omega) rfl rfl rfl rfl rfl rfl (by omega) (by simp [Value.oneCell']) (by omega) (by omega) rfl fun g1 c1 => ?_
  (refine gs ?_)
  refine gw ?_
  refine n_op1 rfl fun b6 => ?_
  refine n_appendN (nv := ints xs) rfl rfl rfl elemInt hiti hpi.1 hpi.2.1 hpi.2.2 rfl (by omega) rfl rfl (by simp) (fun _ w1 _ hI1 => rd_of_row (hI1.res 5 rfl rfl)) (by simp [Value.oneCell']) (by omega) (by omega) ?_
  rintro ⟨o2, c2⟩ hc2
  (refine gs ?_)
  refine gw ?_
  refine n_build1 rfl rfl elemSl rfl rfl rfl rfl rfl rfl rfl rfl rfl ?_
  (refine gs ?_)
  refine gw ?_
  refine n_append (nv := [.slice o2 xs.length c2]) 2 rfl rfl elemSl hits hps.1 hps.2.1 hps.2.2 rfl (by omega) rfl rfl rfl rfl rfl rfl (by omega) (by simp [Value.oneCell']) (by omega) (by omega) rfl fun g2 c2' => ?_
  (refine gs ?_)
  refine gw ?_
  refine n_ret0 rfl rfl fun ids' w' hp hI' => ⟨⟨some ⟨g1, 0, none⟩, c1, some ⟨g2, 0, none⟩, c2', K.E ++ [⟨o, cap, xs, o2, c2⟩]⟩, rfl, ⟨_, rfl, rfl⟩, ?_⟩
  have hI2 := hI'.join 3 5 (by decide) rfl rfl rfl rfl rfl rfl all_add
  have hI3 := hI2.absorb 4 7 (by decide) rfl rfl rfl rfl rfl rfl
  have hI4 := hI3.lessR 4 (ρ' := rdsRes (Kl.G (K.E ++ [⟨o, cap, xs, o2, c2⟩]))) rfl rfl rfl (rds_add (E := K.E) (e := ⟨o, cap, xs, o2, c2⟩))
  have eM : klMem ⟨some ⟨g1, 0, none⟩, c1, some ⟨g2, 0, none⟩, c2', K.E ++ [⟨o, cap, xs, o2, c2⟩]⟩ = [⟨32, [.lit true, .raw (.slice (some ⟨g1, 0, none⟩) (K.E.length + 1) c1), .raw (.slice (some ⟨g2, 0, none⟩) (K.E.length + 1) c2'), .raw (.slice none 0 0)], true⟩, ⟨30, [.res (svRow (some ⟨g1, 0, none⟩) (K.E.length + 1) c1 (K.E.map Le.s1 ++ [.slice o xs.length cap]))], true⟩, ⟨30, [.res (svRow (some ⟨g2, 0, none⟩) (K.E.length + 1) c2' (K.E.map Le.s2 ++ [.slice o2 xs.length c2]))], true⟩, ⟨3, [.res (allRes (K.E.map Le.res ++ [iRow o xs.length cap (ints xs)]))], true⟩, ⟨3, [.res (rdsRes (Kl.G (K.E ++ [⟨o, cap, xs, o2, c2⟩])))], true⟩] := by
    simp [klMem]
  have h := post_shut (ids := [p, 0, 0, 0, 0]) (mem := [⟨32, [.lit true, .raw (.slice (some ⟨g1, 0, none⟩) (K.E.length + 1) c1), .raw (.slice (some ⟨g2, 0, none⟩) (K.E.length + 1) c2'), .raw (.slice none 0 0)], true⟩, ⟨30, [.res (svRow (some ⟨g1, 0, none⟩) (K.E.length + 1) c1 (K.E.map Le.s1 ++ [.slice o xs.length cap]))], true⟩, ⟨30, [.res (svRow (some ⟨g2, 0, none⟩) (K.E.length + 1) c2' (K.E.map Le.s2 ++ [.slice o2 xs.length c2]))], true⟩, ⟨3, [.res (allRes (K.E.map Le.res ++ [iRow o xs.length cap (ints xs)]))], true⟩, ⟨3, [.res (rdsRes (Kl.G (K.E ++ [⟨o, cap, xs, o2, c2⟩])))], true⟩]) (ρ := (klRes p K).both (iRow o xs.length cap (ints xs))) hI4 rfl [0, 1, 2, 3, 4] (.blk rfl (pre_at hp rfl) rfl rfl (.res rfl (.res rfl (.res rfl (.res rfl .nil))))) (by decide)
  rw [← eM] at h
  exact h
end
section
set_option maxRecDepth 100000
set_option linter.unusedSimpArgs false
set_option linter.unusedVariables false
set_option maxHeartbeats 8000000
open Go.RowKit

theorem rds_at {G : List (Option Addr × List Value)} {w : World} (h : (rdsRes G).R w) {y : Option Addr × List Value} (hy : y ∈ G) {m : Int} {n j : Nat} {a : Addr} (ha : y.1 = some a) (hp : marks m n <+: y.2) (hj : j < n) {ad : Addr} (had : ad = a.add (j * 1)) : w.cell? ad = some (.int .i64 (-1 - m)) := by
  obtain ⟨z, hz⟩ := hp
  obtain ⟨a', e, hc⟩ := h y hy j (.int .i64 (-1 - m)) (by rw [← hz, List.getElem?_append_left (by simpa using hj)]; simp [hj])
  rw [ha] at e; simp at e; subst e
  rw [had, Nat.mul_one]; exact hc
theorem kwhole_ok {p : Nat} {K : Kp} {w : World} (hK : K.ok) (hKl : K.Ls.length ≤ 1099511627776) (hR : (kpRes p K).R w) :
    Calls Try.prog 13 #[pV p] w fun e w' => e = .returned (.bool true) ∧ Frm [] w w' := by
  obtain ⟨lo, lc, Ls, mo, mc, Ms, G⟩ := K
  obtain ⟨hlen, hat, hmb, hxb⟩ := hK
  dsimp only at hlen hat hmb hxb hKl
  have hI : Inv (cx 51 [] [] w) w [p, 0, 0, 0] (ro (kpMem ⟨lo, lc, Ls, mo, mc, Ms, G⟩)) := memRes_read hR
  refine calls_sm (cx 51 [] [] w) (vals := [.ptr 0 0]) mixed Try.func13 rfl rfl rfl hI rfl (st rfl ?_); conv => arg 3; whnf
  refine gw ?_
  refine n_loop (σ := Nat) (fun i => [(0, .ptr 0 0), (3, .int .i64 (i : Nat))]) (fun _ => ro (kpMem ⟨lo, lc, Ls, mo, mc, Ms, G⟩)) (fun i => i ≤ Ls.length) (fun i => Ls.length - i) 0 mixed (by omega) (fun _ _ => rfl) rfl (by (repeat (first | exact trivial | refine ⟨⟨rfl, rfl⟩, ?_⟩))) (fun s _ => ⟨by (repeat (first | exact trivial | refine ⟨⟨_, rfl⟩, ?_⟩)), by (repeat (first | exact trivial | refine ⟨⟨_, rfl⟩, ?_⟩))⟩) fun i hi => ?_
  (refine gs ?_)
  by_cases hil : i < Ls.length
  · have ei : IntKind.i64.wrap ((i : Int) + 1) = ((i + 1 : Nat) : Int) := by rw [w64 (by omega) (by omega)]; simp
    have hx : Ls[i]? = some Ls[i] := List.getElem?_eq_getElem _
    have hmx : Ms[i]? = some Ms[i] := List.getElem?_eq_getElem _
    obtain ⟨y, hy, hye, hyp⟩ := hat i _ _ hx hmx
    have hxb := hxb _ (List.getElem_mem hil)
    have hmb := hmb _ (List.getElem_mem (show i < Ms.length by omega))
    generalize Ls[i] = x at hx hye hyp hxb
    generalize Ms[i] = m at hmx hyp hmb
    obtain ⟨xo, xn, xc⟩ := x
    dsimp only at hye hyp hxb
    have em : IntKind.i64.wrap (-1 - m) = -1 - m := w64 (by omega) (by omega)
    obtain ⟨gl, rfl⟩ := rowRes_some' (memRes_res hR 1 rfl rfl) (by dsimp only; omega)
    obtain ⟨gm, rfl⟩ := rowRes_some' (memRes_res hR 2 rfl rfl) (by dsimp only; omega)
    have hcl : ∀ {w1}, (lsRow (some ⟨gl, 0, none⟩) lc Ls).R w1 → w1.cell? ((⟨gl, 0, none⟩ : Addr).add (i * 1)) = some (.slice xo xn xc) := fun h => rowRes_cell h (by rw [Nat.mul_one, List.getElem?_map, hx]; rfl)
    have hcm : ∀ {w1}, (msRow (some ⟨gm, 0, none⟩) mc Ms).R w1 → w1.cell? ((⟨gm, 0, none⟩ : Addr).add (i * 1)) = some (.int .i64 m) := fun h => rowRes_cell h (by rw [Nat.mul_one, List.getElem?_map, hmx]; rfl)
    (repeat ((first | refine n_must rfl ?_ | refine n_chk (drawF_ok (by decide +kernel)) ?_ | refine n_same rfl ?_ | ((first | refine n_must ?_ ?_ | refine n_brT ?_ ?_); (focus (first | (simp [hil]; done) | (simp [hil]; omega) | (simp only [hil]; simp; done)))) | (refine n_brF ?_ ?_; (focus (first | (simp [hil]; done) | (simp [hil]; omega) | (simp only [hil]; simp; done)))) | refine n_must (by (with_reducible refine and_shape ?_) <;> kernel_rfl) ?_); (refine gs ?_)))
    refine n_loop (σ := Nat) (fun j => [(0, .ptr 0 0), (3, .int .i64 (i : Nat)), (4, .int .i64 (j : Nat))]) (fun _ => ro (kpMem ⟨some ⟨gl, 0, none⟩, lc, Ls, some ⟨gm, 0, none⟩, mc, Ms, G⟩)) (fun j => j ≤ xn) (fun j => xn - j) 0 mixed (by omega) (fun _ _ => rfl) rfl (by (repeat (first | exact trivial | refine ⟨⟨rfl, rfl⟩, ?_⟩))) (fun s _ => ⟨by (repeat (first | exact trivial | refine ⟨⟨_, rfl⟩, ?_⟩)), by (repeat (first | exact trivial | refine ⟨⟨_, rfl⟩, ?_⟩))⟩) fun j hj => ?_
    (refine gs ?_)
    (repeat ((first | refine n_must rfl ?_ | refine n_chk (drawF_ok (by decide +kernel)) ?_ | refine n_same rfl ?_ | ((first | refine n_must ?_ ?_ | refine n_brT ?_ ?_); (focus (first | (simp [hil]; done) | (simp [hil]; omega) | (simp only [hil]; simp; done)))) | (refine n_brF ?_ ?_; (focus (first | (simp [hil]; done) | (simp [hil]; omega) | (simp only [hil]; simp; done)))) | refine n_must (by (with_reducible refine and_shape ?_) <;> kernel_rfl) ?_); (refine gs ?_)))
    refine n_ldI (.raw (.slice xo xn xc)) rfl rfl (fun _ w1 _ hI1 => load_cell aggInts17 (hcl (hI1.res 1 rfl rfl))) ?_
    (refine gs ?_)
    by_cases hjl : j < xn
    · have ej : IntKind.i64.wrap ((j : Int) + 1) = ((j + 1 : Nat) : Int) := by rw [w64 (by omega) (by omega)]; simp
      have hys : ∃ a, xo = some a := by
        obtain ⟨z, hz⟩ := hyp
        obtain ⟨a, ha, _⟩ := memRes_res hR 3 rfl rfl y hy j (.int .i64 (-1 - m)) (by rw [← hz, List.getElem?_append_left (by simpa using hjl)]; simp [hjl])
        exact ⟨a, hye ▸ ha⟩
      obtain ⟨a, rfl⟩ := hys
      (repeat ((first | refine n_must rfl ?_ | refine n_chk (drawF_ok (by decide +kernel)) ?_ | refine n_same rfl ?_ | ((first | refine n_must ?_ ?_ | refine n_brT ?_ ?_); (focus (first | (simp [hjl, hil]; done) | (simp [hjl, hil]; omega) | (simp only [hjl, hil]; simp; done)))) | (refine n_brF ?_ ?_; (focus (first | (simp [hjl, hil]; done) | (simp [hjl, hil]; omega) | (simp only [hjl, hil]; simp; done)))) | refine n_must (by (with_reducible refine and_shape ?_) <;> kernel_rfl) ?_); (refine gs ?_)))
      (first | (refine n_ldI (.raw (.slice (some a) xn xc)) rfl rfl (fun _ w1 _ hI1 => load_cell aggInts17 (hcl (hI1.res 1 rfl rfl))) ?_; (refine gs ?_)) | (refine n_ldDI (.raw (.slice (some a) xn xc)) rfl rfl (fun _ w1 _ hI1 => load_cell aggInts17 (hcl (hI1.res 1 rfl rfl))) ?_; (refine gs ?_)) | (refine n_ldRI (.raw (.slice (some a) xn xc)) rfl (fun _ w1 _ hI1 => load_cell aggInts17 (hcl (hI1.res 1 rfl rfl))) ?_; (refine gs ?_)))
      (repeat ((first | refine n_must rfl ?_ | refine n_chk (drawF_ok (by decide +kernel)) ?_ | refine n_same rfl ?_ | ((first | refine n_must ?_ ?_ | refine n_brT ?_ ?_); (focus (first | (simp [hjl, hil]; done) | (simp [hjl, hil]; omega) | (simp only [hjl, hil]; simp; done)))) | (refine n_brF ?_ ?_; (focus (first | (simp [hjl, hil]; done) | (simp [hjl, hil]; omega) | (simp only [hjl, hil]; simp; done)))) | refine n_must (by (with_reducible refine and_shape ?_) <;> kernel_rfl) ?_); (refine gs ?_)))
      (first | (refine n_ldI (.int .i64 (-1 - m)) rfl rfl (fun _ w1 _ hI1 => load_cell aggInt (rds_at (hI1.res 3 rfl rfl) hy hye hyp hjl rfl)) ?_; (refine gs ?_)) | (refine n_ldDI (.int .i64 (-1 - m)) rfl rfl (fun _ w1 _ hI1 => load_cell aggInt (rds_at (hI1.res 3 rfl rfl) hy hye hyp hjl rfl)) ?_; (refine gs ?_)) | (refine n_ldRI (.int .i64 (-1 - m)) rfl (fun _ w1 _ hI1 => load_cell aggInt (rds_at (hI1.res 3 rfl rfl) hy hye hyp hjl rfl)) ?_; (refine gs ?_)))
      have him : i < Ms.length := by omega
      (repeat ((first | refine n_must rfl ?_ | refine n_chk (drawF_ok (by decide +kernel)) ?_ | refine n_same rfl ?_ | ((first | refine n_must ?_ ?_ | refine n_brT ?_ ?_); (focus (first | (simp [him]; done) | (simp [him]; omega) | (simp only [him]; simp; done)))) | (refine n_brF ?_ ?_; (focus (first | (simp [him]; done) | (simp [him]; omega) | (simp only [him]; simp; done)))) | refine n_must (by (with_reducible refine and_shape ?_) <;> kernel_rfl) ?_); (refine gs ?_)))
      (first | (refine n_ldI (.int .i64 m) rfl rfl (fun _ w1 _ hI1 => load_cell aggInt (hcm (hI1.res 2 rfl rfl))) ?_; (refine gs ?_)) | (refine n_ldDI (.int .i64 m) rfl rfl (fun _ w1 _ hI1 => load_cell aggInt (hcm (hI1.res 2 rfl rfl))) ?_; (refine gs ?_)) | (refine n_ldRI (.int .i64 m) rfl (fun _ w1 _ hI1 => load_cell aggInt (hcm (hI1.res 2 rfl rfl))) ?_; (refine gs ?_)))
      (repeat ((first | refine n_must rfl ?_ | refine n_chk (drawF_ok (by decide +kernel)) ?_ | refine n_same rfl ?_ | ((first | refine n_must ?_ ?_ | refine n_brT ?_ ?_); (focus (first | (simp [em]; done) | (simp [em]; omega) | (simp only [em]; simp; done)))) | (refine n_brF ?_ ?_; (focus (first | (simp [em]; done) | (simp [em]; omega) | (simp only [em]; simp; done)))) | refine n_must (by (with_reducible refine and_shape ?_) <;> kernel_rfl) ?_); (refine gs ?_)))
      exact n_again ⟨j + 1, by omega, by omega, (by (repeat (first | exact trivial | refine ⟨⟨rfl, rfl⟩, ?_⟩ | refine ⟨⟨rfl, congrArg (SV.int .i64) ej⟩, ?_⟩))), ⟨_, rfl⟩⟩
    · obtain rfl : j = xn := by omega
      refine gw ?_
      refine n_exit rfl ?_
      (refine gs ?_)
      refine gw ?_
      exact n_again ⟨i + 1, by omega, by omega, (by (repeat (first | exact trivial | refine ⟨⟨rfl, rfl⟩, ?_⟩ | refine ⟨⟨rfl, congrArg (SV.int .i64) ei⟩, ?_⟩))), ⟨_, rfl⟩⟩
  · obtain rfl : i = Ls.length := by omega
    refine gw ?_
    refine n_exit rfl ?_
    (refine gs ?_)
    refine gw ?_
    exact n_ret0 rfl rfl fun ids' w' hp hI' => ⟨rfl, hI'.frm⟩
end
section
set_option maxRecDepth 100000
set_option linter.unusedSimpArgs false
set_option linter.unusedVariables false
set_option maxHeartbeats 8000000
open Go.RowKit

abbrev Le.mk' (e : Le) (j : Nat) : Res := iRow e.o e.xs.length e.cap (marks j e.xs.length)
abbrev klMemA (lo : Option Addr) (lc : Nat) (wo : Option Addr) (wc : Nat) (E : List Le) (A : List Res) : Mem := [⟨32, [.lit true, .raw (.slice lo E.length lc), .raw (.slice wo E.length wc), .raw (.slice none 0 0)], true⟩, ⟨30, [.res (svRow lo E.length lc (E.map Le.s1))], true⟩, ⟨30, [.res (svRow wo E.length wc (E.map Le.s2))], true⟩, ⟨3, [.res (allRes A)], true⟩, ⟨3, [.res (rdsRes (Kl.G E))], true⟩]
theorem kp0_ok : Kp.ok ⟨none, 0, [], none, 0, [], []⟩ := ⟨rfl, fun i x m h => by simp at h, by simp, by simp⟩
theorem klately_ok {p : Nat} {K : Kl} {w : World} (hE : K.E.length ≤ 10995116277) (hxs : ∀ e ∈ K.E, e.xs.length ≤ 10995116277) (hR : (klRes p K).R w) :
    Calls Try.prog 36 #[pV p] w fun e w' => e = .returned (.bool true) ∧ Frm (klRes p K).fp w w' := by
  obtain ⟨lo, lc, wo, wc, E⟩ := K
  dsimp only at hE hxs
  have hI : Inv (cx 73 [] (klRes p ⟨lo, lc, wo, wc, E⟩).fp w) w [p, 0, 0, 0, 0] (klMem ⟨lo, lc, wo, wc, E⟩) := memRes_open hR fun x hx => hx
  refine calls_sm (cx 73 [] (klRes p ⟨lo, lc, wo, wc, E⟩).fp w) (vals := [.ptr 0 0]) mixed Try.func36 rfl rfl rfl hI rfl (st rfl ?_); conv => arg 3; whnf
  refine gw ?_
  have hlg : 0 < E.length → (∃ gl, lo = some ⟨gl, 0, none⟩) ∧ ∃ gv, wo = some ⟨gv, 0, none⟩ := fun h => ⟨rowRes_some' (memRes_res hR 1 rfl rfl) h, rowRes_some' (memRes_res hR 2 rfl rfl) h⟩
  refine n_loop (σ := Nat) (fun i => [(0, .ptr 0 0), (3, .int .i64 (i : Nat))]) (fun _ => klMemA lo lc wo wc E (E.map Le.res)) (fun i => i ≤ E.length) (fun i => E.length - i) 0 mixed (by omega) (fun _ _ => rfl) rfl (by (repeat (first | exact trivial | refine ⟨⟨rfl, rfl⟩, ?_⟩))) (fun s _ => ⟨by (repeat (first | exact trivial | refine ⟨⟨_, rfl⟩, ?_⟩)), by (repeat (first | exact trivial | refine ⟨⟨_, rfl⟩, ?_⟩))⟩) fun i hi => ?_
  (refine gs ?_)
  by_cases hil : i < E.length
  · have ei : IntKind.i64.wrap ((i : Int) + 1) = ((i + 1 : Nat) : Int) := by rw [w64 (by omega) (by omega)]; simp
    have hx : E[i]? = some E[i] := List.getElem?_eq_getElem _
    have hxb := hxs _ (List.getElem_mem hil)
    generalize E[i] = x at hx hxb
    obtain ⟨⟨gl, rfl⟩, ⟨gv, rfl⟩⟩ := hlg (by omega)
    have hc1 : ∀ {w1}, (svRow (some ⟨gl, 0, none⟩) E.length lc (E.map Le.s1)).R w1 → w1.cell? ((⟨gl, 0, none⟩ : Addr).add (i * 1)) = some x.s1 := fun h => rowRes_cell h (by rw [Nat.mul_one, List.getElem?_map, hx]; rfl)
    have hc2 : ∀ {w1}, (svRow (some ⟨gv, 0, none⟩) E.length wc (E.map Le.s2)).R w1 → w1.cell? ((⟨gv, 0, none⟩ : Addr).add (i * 1)) = some x.s2 := fun h => rowRes_cell h (by rw [Nat.mul_one, List.getElem?_map, hx]; rfl)
    have hr1 : ∀ {w1}, (allRes (E.map Le.res)).R w1 → (readRes x.o (ints x.xs)).R w1 := fun h => rd_of_row (all_at h (i := i) (r := x.res) (by rw [List.getElem?_map, hx]; rfl))
    have hr2 : ∀ {w1}, (rdsRes (Kl.G E)).R w1 → (readRes x.o2 (ints x.xs)).R w1 := fun h => h (x.o2, ints x.xs) (List.mem_map.2 ⟨x, List.mem_of_getElem? hx, rfl⟩)
    (repeat ((first | refine n_must rfl ?_ | refine n_chk (drawF_ok (by decide +kernel)) ?_ | refine n_same rfl ?_ | ((first | refine n_must ?_ ?_ | refine n_brT ?_ ?_); (focus (first | (simp [hil]; done) | (simp [hil]; omega) | (simp only [hil]; simp; done)))) | (refine n_brF ?_ ?_; (focus (first | (simp [hil]; done) | (simp [hil]; omega) | (simp only [hil]; simp; done)))) | refine n_must (by (with_reducible refine and_shape ?_) <;> kernel_rfl) ?_); (refine gs ?_)))
    (first | (refine n_ldI (.raw x.s1) rfl rfl (fun _ w1 _ hI1 => load_cell aggInts17 (hc1 (hI1.res 1 rfl rfl))) ?_; (refine gs ?_)) | (refine n_ldDI (.raw x.s1) rfl rfl (fun _ w1 _ hI1 => load_cell aggInts17 (hc1 (hI1.res 1 rfl rfl))) ?_; (refine gs ?_)) | (refine n_ldRI (.raw x.s1) rfl (fun _ w1 _ hI1 => load_cell aggInts17 (hc1 (hI1.res 1 rfl rfl))) ?_; (refine gs ?_)))
    (repeat ((first | refine n_must rfl ?_ | refine n_chk (drawF_ok (by decide +kernel)) ?_ | refine n_same rfl ?_ | ((first | refine n_must ?_ ?_ | refine n_brT ?_ ?_); (focus (first | (simp [hil]; done) | (simp [hil]; omega) | (simp only [hil]; simp; done)))) | (refine n_brF ?_ ?_; (focus (first | (simp [hil]; done) | (simp [hil]; omega) | (simp only [hil]; simp; done)))) | refine n_must (by (with_reducible refine and_shape ?_) <;> kernel_rfl) ?_); (refine gs ?_)))
    (first | (refine n_ldI (.raw x.s2) rfl rfl (fun _ w1 _ hI1 => load_cell aggInts17 (hc2 (hI1.res 2 rfl rfl))) ?_; (refine gs ?_)) | (refine n_ldDI (.raw x.s2) rfl rfl (fun _ w1 _ hI1 => load_cell aggInts17 (hc2 (hI1.res 2 rfl rfl))) ?_; (refine gs ?_)) | (refine n_ldRI (.raw x.s2) rfl (fun _ w1 _ hI1 => load_cell aggInts17 (hc2 (hI1.res 2 rfl rfl))) ?_; (refine gs ?_)))
    (repeat ((first | refine n_must rfl ?_ | refine n_chk (drawF_ok (by decide +kernel)) ?_ | refine n_same rfl ?_ | ((first | refine n_must ?_ ?_ | refine n_brT ?_ ?_); (focus (first | (simp [hil]; done) | (simp [hil]; omega) | (simp only [hil]; simp; done)))) | (refine n_brF ?_ ?_; (focus (first | (simp [hil]; done) | (simp [hil]; omega) | (simp only [hil]; simp; done)))) | refine n_must (by (with_reducible refine and_shape ?_) <;> kernel_rfl) ?_); (refine gs ?_)))
    refine n_sameP (.bool true) rfl rfl rfl (fun _ w1 hp1 hI1 => same_ok x.cap x.c2 (hr1 (hI1.res 3 rfl rfl)) (rd_lt (hr1 (hI1.res 3 rfl rfl))) (hr2 (hI1.res 4 rfl rfl)) (rd_lt (hr2 (hI1.res 4 rfl rfl))) (by omega)) ?_; (refine gs ?_)
    refine gw ?_
    exact n_again ⟨i + 1, by omega, by omega, (by (repeat (first | exact trivial | refine ⟨⟨rfl, rfl⟩, ?_⟩ | refine ⟨⟨rfl, congrArg (SV.int .i64) ei⟩, ?_⟩))), ⟨_, rfl⟩⟩
  · obtain rfl : i = E.length := by omega
    refine gw ?_
    refine n_exit rfl ?_
    (refine gs ?_)
    refine gw ?_
    refine n_loop1 rfl fun b => ?_
    refine n_loopM (σ := Nat × List Res) (fun t => [(0, .ptr 0 0), (4, .ptr 5 0), (5, .int .i64 (t.1 : Nat))]) (fun t => klMemA lo lc wo wc E t.2 ++ [⟨32, [.lit false, .raw (.slice none 0 0), .raw (.slice none 0 0), .raw (.slice none 0 0)], true⟩]) (fun t => t.1 ≤ E.length ∧ ∀ (j : Nat) (e : Le), E[j]? = some e → t.2[j]? = some (if j < t.1 then e.mk' j else e.res)) (fun t => E.length - t.1) (0, E.map Le.res) mixed ⟨by dsimp only; omega, fun j e he => by rw [if_neg (by dsimp only; omega), List.getElem?_map, he]; rfl⟩ (fun _ _ => rfl) (fun _ h => h) rfl (by (repeat (first | exact trivial | refine ⟨⟨rfl, rfl⟩, ?_⟩))) (fun s _ => ⟨by (repeat (first | exact trivial | refine ⟨⟨_, rfl⟩, ?_⟩)), by (repeat (first | exact trivial | refine ⟨⟨_, rfl⟩, ?_⟩))⟩) fun t ht => ?_
    obtain ⟨i, A⟩ := t
    obtain ⟨hi, hA⟩ := ht
    dsimp only at hi hA ⊢
    (refine gs ?_)
    by_cases hil : i < E.length
    · have ei : IntKind.i64.wrap ((i : Int) + 1) = ((i + 1 : Nat) : Int) := by rw [w64 (by omega) (by omega)]; simp
      have hx : E[i]? = some E[i] := List.getElem?_eq_getElem _
      have hxb := hxs _ (List.getElem_mem hil)
      generalize E[i] = x at hx hxb
      have hAi := hA i x hx
      rw [if_neg (by omega)] at hAi
      have hAl := (List.getElem?_eq_some_iff.1 hAi).1
      obtain ⟨⟨gl, rfl⟩, ⟨gv, rfl⟩⟩ := hlg (by omega)
      have hc1 : ∀ {w1}, (svRow (some ⟨gl, 0, none⟩) E.length lc (E.map Le.s1)).R w1 → w1.cell? ((⟨gl, 0, none⟩ : Addr).add (i * 1)) = some x.s1 := fun h => rowRes_cell h (by rw [Nat.mul_one, List.getElem?_map, hx]; rfl)
      (repeat ((first | refine n_must rfl ?_ | refine n_chk (drawF_ok (by decide +kernel)) ?_ | refine n_same rfl ?_ | ((first | refine n_must ?_ ?_ | refine n_brT ?_ ?_); (focus (first | (simp [hil]; done) | (simp [hil]; omega) | (simp only [hil]; simp; done)))) | (refine n_brF ?_ ?_; (focus (first | (simp [hil]; done) | (simp [hil]; omega) | (simp only [hil]; simp; done)))) | refine n_must (by (with_reducible refine and_shape ?_) <;> kernel_rfl) ?_); (refine gs ?_)))
      (first | (refine n_ldI (.raw x.s1) rfl rfl (fun _ w1 _ hI1 => load_cell aggInts17 (hc1 (hI1.res 1 rfl rfl))) ?_; (refine gs ?_)) | (refine n_ldDI (.raw x.s1) rfl rfl (fun _ w1 _ hI1 => load_cell aggInts17 (hc1 (hI1.res 1 rfl rfl))) ?_; (refine gs ?_)) | (refine n_ldRI (.raw x.s1) rfl (fun _ w1 _ hI1 => load_cell aggInts17 (hc1 (hI1.res 1 rfl rfl))) ?_; (refine gs ?_)))
      (repeat ((first | refine n_must rfl ?_ | refine n_chk (drawF_ok (by decide +kernel)) ?_ | refine n_same rfl ?_ | ((first | refine n_must ?_ ?_ | refine n_brT ?_ ?_); (focus (first | (simp [hil]; done) | (simp [hil]; omega) | (simp only [hil]; simp; done)))) | (refine n_brF ?_ ?_; (focus (first | (simp [hil]; done) | (simp [hil]; omega) | (simp only [hil]; simp; done)))) | refine n_must (by (with_reducible refine and_shape ?_) <;> kernel_rfl) ?_); (refine gs ?_)))
      refine n_callX [0] _ rfl (fun w1 hI1 => (hI1.lessR 3 rfl rfl rfl (fun h => all_out h hAi)).part2 3 rfl rfl 3) ?_
      refine n_callR (Y := Unit) 6 (fun _ => x.mk' i) (fun _ => .tup []) (fun _ => .tuple #[]) (fun _ => True) rfl rfl (fun _ => rfl) rfl rfl rfl (fun _ w1 _ hI1 hR1 => (kfill_ok (l := ints x.xs) (by simp) (by omega) (by omega) hR1).mono fun e w' ⟨he, hf⟩ => ⟨(), he, trivial, hf⟩) ?_
      intro _ _
      (refine gs ?_)
      refine gw ?_
      refine n_againM fun ids' w' hp hI' => ⟨(i + 1, (A.set i Res.none).set i (x.mk' i)), ⟨by dsimp only; omega, fun j e he => ?_⟩, by dsimp only; omega, (by (repeat (first | exact trivial | refine ⟨⟨rfl, rfl⟩, ?_⟩ | refine ⟨⟨rfl, congrArg (SV.int .i64) ei⟩, ?_⟩))), [⟨3, [.res Res.none], true⟩], hI'.join 3 6 (by decide) rfl rfl rfl rfl rfl rfl (fun h => all_in h (by rw [List.getElem?_set_self hAl]))⟩
      dsimp only
      by_cases hji : j = i
      · subst hji
        rw [hx] at he; simp at he; subst he
        rw [List.getElem?_set_self (by simpa using hAl), if_pos (by omega)]
      · rw [List.getElem?_set_ne (Ne.symm hji), List.getElem?_set_ne (Ne.symm hji), hA j e he]
        by_cases h : j < i
        · rw [if_pos h, if_pos (by omega)]
        · rw [if_neg h, if_neg (by omega)]
    · obtain rfl : i = E.length := by omega
      refine gw ?_
      refine n_exitM rfl ?_
      (refine gs ?_)
      refine gw ?_
      refine n_loopX [0, 0, 0, 0] (klMemA lo lc wo wc E A ++ [⟨32, [.res Res.none], true⟩, ⟨30, [.res Res.none], true⟩, ⟨3, [.res Res.none], true⟩, ⟨3, [.res Res.none], true⟩, ⟨32, [.res (kpRes b ⟨none, 0, [], none, 0, [], []⟩)], true⟩]) rfl (fun w1 hI1 => ?_) ?_
      · have h1 := hI1.addR (Frm.refl [] w1) (lsRow none 0 []) 30 true (rowRes_nil _ _ _) (by simp [rowRes]) (by simp [rowRes])
        have h2 := h1.addR (Frm.refl [] w1) (msRow none 0 []) 3 true (rowRes_nil _ _ _) (by simp [rowRes]) (by simp [rowRes])
        have h3 := h2.addR (Frm.refl [] w1) (rdsRes []) 3 true (fun x hx => by simp at hx) (by simp [rdsRes]) (by simp [rdsRes])
        exact h3.gather (ids0 := [b, 0, 0, 0]) (mem0 := kpMem ⟨none, 0, [], none, 0, [], []⟩) [5, 6, 7, 8] (.blk rfl rfl rfl rfl (.res rfl (.res rfl (.res rfl .nil)))) (by decide) 32
      refine n_loopM (σ := Nat × List Res × Kp) (fun t => [(0, .ptr 0 0), (4, .ptr 5 0), (6, .int .i64 (t.1 : Nat))]) (fun t => klMemA lo lc wo wc E t.2.1 ++ [⟨32, [.res Res.none], true⟩, ⟨30, [.res Res.none], true⟩, ⟨3, [.res Res.none], true⟩, ⟨3, [.res Res.none], true⟩, ⟨32, [.res (kpRes b t.2.2)], true⟩]) (fun t => t.1 ≤ E.length ∧ (∀ (j : Nat) (e : Le), E[j]? = some e → t.1 ≤ j → t.2.1[j]? = some (e.mk' j)) ∧ t.2.2.ok ∧ t.2.2.Ls.length ≤ 41 * t.1) (fun t => E.length - t.1) (0, A, ⟨none, 0, [], none, 0, [], []⟩) mixed ⟨by dsimp only; omega, fun j e he _ => by rw [hA j e he, if_pos (List.getElem?_eq_some_iff.1 he).1], kp0_ok, by simp⟩ (fun _ _ => rfl) (fun _ h => h) rfl (by (repeat (first | exact trivial | refine ⟨⟨rfl, rfl⟩, ?_⟩))) (fun s _ => ⟨by (repeat (first | exact trivial | refine ⟨⟨_, rfl⟩, ?_⟩)), by (repeat (first | exact trivial | refine ⟨⟨_, rfl⟩, ?_⟩))⟩) fun t ht => ?_
      obtain ⟨i, A, K⟩ := t
      obtain ⟨hi, hA, hK, hKl⟩ := ht
      dsimp only at hi hA hK hKl ⊢
      (refine gs ?_)
      by_cases hil : i < E.length
      · have ei : IntKind.i64.wrap ((i : Int) + 1) = ((i + 1 : Nat) : Int) := by rw [w64 (by omega) (by omega)]; simp
        have hx : E[i]? = some E[i] := List.getElem?_eq_getElem _
        have hxb := hxs _ (List.getElem_mem hil)
        generalize E[i] = x at hx hxb
        have hAi := hA i x hx (Nat.le_refl _)
        have hAl := (List.getElem?_eq_some_iff.1 hAi).1
        obtain ⟨⟨gl, rfl⟩, ⟨gv, rfl⟩⟩ := hlg (by omega)
        have hc1 : ∀ {w1}, (svRow (some ⟨gl, 0, none⟩) E.length lc (E.map Le.s1)).R w1 → w1.cell? ((⟨gl, 0, none⟩ : Addr).add (i * 1)) = some x.s1 := fun h => rowRes_cell h (by rw [Nat.mul_one, List.getElem?_map, hx]; rfl)
        (repeat ((first | refine n_must rfl ?_ | refine n_chk (drawF_ok (by decide +kernel)) ?_ | refine n_same rfl ?_ | ((first | refine n_must ?_ ?_ | refine n_brT ?_ ?_); (focus (first | (simp [hil]; done) | (simp [hil]; omega) | (simp only [hil]; simp; done)))) | (refine n_brF ?_ ?_; (focus (first | (simp [hil]; done) | (simp [hil]; omega) | (simp only [hil]; simp; done)))) | refine n_must (by (with_reducible refine and_shape ?_) <;> kernel_rfl) ?_); (refine gs ?_)))
        (first | (refine n_ldI (.raw x.s1) rfl rfl (fun _ w1 _ hI1 => load_cell aggInts17 (hc1 (hI1.res 1 rfl rfl))) ?_; (refine gs ?_)) | (refine n_ldDI (.raw x.s1) rfl rfl (fun _ w1 _ hI1 => load_cell aggInts17 (hc1 (hI1.res 1 rfl rfl))) ?_; (refine gs ?_)) | (refine n_ldRI (.raw x.s1) rfl (fun _ w1 _ hI1 => load_cell aggInts17 (hc1 (hI1.res 1 rfl rfl))) ?_; (refine gs ?_)))
        (repeat ((first | refine n_must rfl ?_ | refine n_chk (drawF_ok (by decide +kernel)) ?_ | refine n_same rfl ?_ | ((first | refine n_must ?_ ?_ | refine n_brT ?_ ?_); (focus (first | (simp [hil]; done) | (simp [hil]; omega) | (simp only [hil]; simp; done)))) | (refine n_brF ?_ ?_; (focus (first | (simp [hil]; done) | (simp [hil]; omega) | (simp only [hil]; simp; done)))) | refine n_must (by (with_reducible refine and_shape ?_) <;> kernel_rfl) ?_); (refine gs ?_)))
        refine n_callX [0] _ rfl (fun w1 hI1 => ((hI1.lessR 3 rfl rfl rfl (fun h => all_out h hAi)).part2 3 rfl rfl 3).absorb 9 10 (by decide) rfl rfl rfl rfl rfl rfl) ?_
        refine n_callR (Y := Kp) 9 (fun K' => kpRes b K') (fun _ => .tup []) (fun _ => .tuple #[]) (fun K' => K'.ok ∧ K'.Ls.length ≤ K.Ls.length + 41) rfl rfl (fun _ => rfl) rfl rfl rfl (fun _ w1 _ hI1 hR1 => khold_ok (by omega) hxb hK (by omega) hR1) ?_
        rintro K' ⟨hK', hKl'⟩
        (refine gs ?_)
        refine gw ?_
        refine n_againM fun ids' w' hp hI' => ⟨(i + 1, A.set i Res.none, K'), ⟨by dsimp only; omega, fun j e he hj => ?_, hK', by dsimp only; omega⟩, by dsimp only; omega, (by (repeat (first | exact trivial | refine ⟨⟨rfl, rfl⟩, ?_⟩ | refine ⟨⟨rfl, congrArg (SV.int .i64) ei⟩, ?_⟩))), [⟨3, [.res Res.none], true⟩], hI'⟩
        dsimp only at hj ⊢
        rw [List.getElem?_set_ne (by omega)]
        exact hA j e he (by omega)
      · obtain rfl : i = E.length := by omega
        refine gw ?_
        refine n_exitM rfl ?_
        (refine gs ?_)
        refine gw ?_
        refine n_sameP (.bool true) rfl rfl rfl (fun _ w1 hp1 hI1 => kwhole_ok hK (by omega) (hI1.res 9 rfl rfl)) ?_; (refine gs ?_)
        refine gw ?_
        exact n_ret0 rfl rfl fun ids' w' hp hI' => ⟨rfl, hI'.frm⟩
theorem klwhole_ok {p : Nat} {K : Kl} {w : World} (hE : K.E.length ≤ 10995116277) (hxs : ∀ e ∈ K.E, e.xs.length ≤ 10995116277) (hR : (klRes p K).R w) :
    Calls Try.prog 13 #[pV p] w fun e w' => e = .returned (.bool true) ∧ Frm (klRes p K).fp w w' := by
  have hI : Inv (cx 51 [] (klRes p K).fp w) w [0] [⟨32, [.res (klRes p K)], true⟩] := (Inv.nil w).consR (by simp) hR (memRes_lt hR) (fun _ x hx => hx)
  refine calls_sm (cx 51 [] (klRes p K).fp w) (vals := [.raw (pV p)]) mixed Try.func13 rfl rfl rfl hI rfl (st rfl ?_); conv => arg 3; whnf
  refine gw ?_
  refine n_ldI (.lit true) rfl rfl (fun _ w1 _ hI1 => load_cell aggBool17 (blk_at (memRes_blk (hI1.res 0 rfl rfl) 0 rfl rfl rfl) (j := 0) rfl rfl)) ?_
  (refine gs ?_)
  refine gw ?_
  refine n_callR (Y := Unit) 0 (fun _ => Res.none) (fun _ => .bool true) (fun _ => .bool true) (fun _ => True) rfl rfl (fun _ => rfl) rfl rfl rfl (fun _ w1 _ hI1 hR1 => (klately_ok hE hxs hR1).mono fun e w' ⟨he, hf⟩ => ⟨(), he, trivial, hf, trivial, by simp [Res.none], by simp [Res.none]⟩) ?_
  intro _ _
  (refine gs ?_)
  refine gw ?_
  exact n_ret0 rfl rfl fun ids' w' hp hI' => ⟨rfl, hI'.frm⟩
end
end Go.Proofs.Ytfcbcgjgkleonaa
