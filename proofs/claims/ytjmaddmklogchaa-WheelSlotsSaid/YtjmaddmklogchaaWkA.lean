/- Chapter 5's law: rows of timers; what was answered is kept: fill, hold. -/
import Derived.Test.YtjmaddmklogchaaBnU
import Derived.Test.YtjmaddmklogchaaBnZ
import Derived.Test.YtjmaddmklogchaaBnY
import Derived.Test.YtjmaddmklogchaaBnX
import Derived.Test.YtjmaddmklogchaaWhP
import Derived.Test.YtjmaddmklogchaaChecked
set_option maxRecDepth 100000
set_option linter.unusedSimpArgs false
set_option linter.unusedVariables false
set_option maxHeartbeats 8000000
namespace Go.Proofs.Ytjmaddmklogchaa
open Go.RowKit
open Go.Maps (Keyed)

theorem mixed : Try.prog.follows .mixedOrders = true := by kernel_rfl
noncomputable abbrev cx (N : Nat) (os : List (Nat × Odr)) (S : List Nat) (w : World) : Ctx := { P := Try.prog, N, os, S, w0 := w }
theorem aggInt : aggB Try.prog 3 = some false := by kernel_rfl
theorem aggBool : aggB Try.prog 4 = some false := by kernel_rfl
theorem aggTms : aggB Try.prog 31 = some false := by kernel_rfl
theorem aggInts : aggB Try.prog 40 = some false := by kernel_rfl
theorem aggTmss : aggB Try.prog 49 = some false := by kernel_rfl
theorem aggTm : aggB Try.prog 54 = some true := by kernel_rfl
theorem sizeTm : sizeB Try.prog 54 = some 4 := by kernel_rfl
theorem elemTm : sliceElem Try.prog 31 = some 54 := by kernel_rfl
theorem infoTm : (Try.prog.info? 54).map (fun i => (i.zero, i.size, i.bytes)) = some (some (.agg #[.int .i64 0, .int .i64 0, .int .i64 0, .int .i64 0]), 4, 32) := by kernel_rfl
theorem elemInt : sliceElem Try.prog 40 = some 3 := by kernel_rfl
theorem infoInt : (Try.prog.info? 3).map (fun i => (i.zero, i.size, i.bytes)) = some (some (.int .i64 0), 1, 8) := by kernel_rfl
theorem elemSl : sliceElem Try.prog 49 = some 31 := by kernel_rfl
theorem infoSl : (Try.prog.info? 31).map (fun i => (i.zero, i.size, i.bytes)) = some (some (.slice none 0 0), 1, 24) := by kernel_rfl
def intE : KeyEnc Try.prog 3 Int := intEnc Try.prog 3 .i64 (by kernel_rfl)
theorem intK : Keyed Try.prog 3 := Go.Maps.int_keyed (q := .i64) (by kernel_rfl)
abbrev intV (n : Int) : Value := .int .i64 n
abbrev pV (b : Nat) : Value := .pointer (some ⟨b, 0, none⟩)
abbrev ints (l : List Int) : List Value := l.map (Value.int .i64)
theorem rowRes_lt {e : TypeId} {size n cap : Nat} {o : Option Addr} {xs : List Value} {w : World} (h : (rowRes e size o n cap xs).R w) : ∀ x ∈ (rowRes e size o n cap xs).fp, x < w.heap.size := by
  have h' : w.ownsRow 0 e size (.slice o n cap) n xs := h
  intro x hx
  cases o with
  | none => simp [rowRes] at hx
  | some a =>
    simp [rowRes] at hx
    subst hx
    exact (h'.lt _ rfl).2
abbrev Tm.sv (t : Tm) : List SV := [.int .i64 t.due, .int .i64 t.num, .int .i64 t.kind, .int .i64 t.id]
abbrev Tm.val (t : Tm) : Value := .agg #[.int .i64 t.due, .int .i64 t.num, .int .i64 t.kind, .int .i64 t.id]
abbrev tRow (o : Option Addr) (n cap : Nat) (xs : List Value) : Res := rowRes 54 4 o n cap xs
abbrev tms (L : List Tm) : List Value := L.flatMap Tm.l
theorem tms_len (L : List Tm) : (tms L).length = L.length * 4 := flat_len tm_len L
theorem tms_one (L : List Tm) : ∀ u ∈ tms L, u.oneCell' = true := by
  intro u hu
  obtain ⟨t, _, hu⟩ := List.mem_flatMap.1 hu
  simp only [List.mem_cons, List.not_mem_nil, or_false] at hu
  rcases hu with rfl | rfl | rfl | rfl <;> rfl
theorem tms_app (L M : List Tm) : tms (L ++ M) = tms L ++ tms M := List.flatMap_append
theorem tms_add (L : List Tm) (t : Tm) : tms L ++ t.l = tms (L ++ [t]) := by rw [tms_app]; simp
/-- A timer read out of cells that are read only. -/
theorem tm_load {a : Addr} {L : List Tm} {w : World} (h : (readRes (some a) (tms L)).R w) {i : Nat} {t : Tm} (hx : L[i]? = some t) {ad : Addr} (had : ad = a.add (i * 4)) : (loadVar 54 ad).run Try.prog w = .ok t.val w :=
  load_row (l := t.l) aggTm sizeTm fun j u hu => rd_at tm_len h hx (j := j) (by have := (List.getElem?_eq_some_iff.1 hu).1; simpa using this) hu (by rw [had, add_add])
theorem tm_cell {a : Addr} {L : List Tm} {w : World} (h : (readRes (some a) (tms L)).R w) {i : Nat} {t : Tm} (hx : L[i]? = some t) (j : Nat) {u : Value} (hu : t.l[j]? = some u) {ad : Addr} (had : ad = a.add (i * 4 + j)) : w.cell? ad = some u :=
  rd_at tm_len h hx (j := j) (by have := (List.getElem?_eq_some_iff.1 hu).1; simpa using this) hu had
theorem tm_some {o : Option Addr} {L : List Tm} {w : World} (h : (readRes o (tms L)).R w) (hn : 0 < L.length) : ∃ a, o = some a := rd_some tm_len (by omega) h hn

theorem blk_at {w : World} {b j : Nat} {l : List Value} {t : TypeId} (h : Blk w b l.toArray t) {a : Addr} {u : Value} (hu : l[j]? = some u) (ha : a = (⟨b, 0, none⟩ : Addr).add j) : w.cell? a = some u := cellsRes_at (b := b) (l := l) (t := t) h hu ha
/-! ### same -/
theorem same_ok {o o2 : Option Addr} {l : List Tm} {w : World} (cap cap2 : Nat) (hR : (readRes o (tms l)).R w) (hlt : ∀ x ∈ (readRes o (tms l)).fp, x < w.heap.size) (hR2 : (readRes o2 (tms l)).R w) (hlt2 : ∀ x ∈ (readRes o2 (tms l)).fp, x < w.heap.size) (hl : l.length ≤ 9223372036854775806) :
    Calls Try.prog 14 #[.slice o l.length cap, .slice o2 l.length cap2] w fun e w' => e = .returned (.bool true) ∧ Frm [] w w' := by
  have hI := Inv.nil (P := Try.prog) (N := 26) (S := []) (os := []) w
  have h1 : ∀ w1, Frm [] w w1 → (readRes o (tms l)).R w1 := fun w1 hf => (readRes o (tms l)).stable _ _ (fun k hk => hf.block k (hlt k hk) (by simp)) hR
  have h2 : ∀ w1, Frm [] w w1 → (readRes o2 (tms l)).R w1 := fun w1 hf => (readRes o2 (tms l)).stable _ _ (fun k hk => hf.block k (hlt2 k hk) (by simp)) hR2
  refine calls_sm (cx 26 [] [] w) (vals := [.raw (.slice o l.length cap), .raw (.slice o2 l.length cap2)]) mixed Try.func14 rfl rfl rfl hI rfl (st rfl ?_); conv => arg 3; whnf
  refine gw ?_
  refine n_loop (σ := Nat) (fun i => [(0, .raw (.slice o l.length cap)), (1, .raw (.slice o2 l.length cap2)), (5, .int .i64 (i : Nat))]) (fun _ => []) (fun i => i ≤ l.length) (fun i => l.length - i) 0 mixed (by omega) (fun _ _ => rfl) rfl (by (repeat (first | exact trivial | refine ⟨⟨rfl, rfl⟩, ?_⟩))) (fun s _ => ⟨by (repeat (first | exact trivial | refine ⟨⟨_, rfl⟩, ?_⟩)), by (repeat (first | exact trivial | refine ⟨⟨_, rfl⟩, ?_⟩))⟩) fun i hi => ?_
  (refine gs ?_)
  by_cases hlt3 : i < l.length
  · have ei : IntKind.i64.wrap ((i : Int) + 1) = ((i + 1 : Nat) : Int) := by rw [w64 (by omega) (by omega)]; simp
    have hx : l[i]? = some l[i] := List.getElem?_eq_getElem _
    obtain ⟨ad, rfl⟩ : ∃ a, o = some a := tm_some hR (by omega)
    obtain ⟨ad2, rfl⟩ : ∃ a, o2 = some a := tm_some hR2 (by omega)
    generalize l[i] = p at hx
    refine gw ?_
    (refine n_ldA (.agg p.sv) rfl (by first | exact trivial | rfl) rfl (fun _ w1 _ hI1 => tm_load (h1 _ hI1.frm) hx rfl) ?_; (refine gs ?_))
    refine gw ?_
    (refine n_ldA (.agg p.sv) rfl (by first | exact trivial | rfl) rfl (fun _ w1 _ hI1 => tm_load (h2 _ hI1.frm) hx rfl) ?_; (refine gs ?_))
    refine gw ?_
    exact n_again ⟨i + 1, by omega, by omega, (by (repeat (first | exact trivial | refine ⟨⟨rfl, rfl⟩, ?_⟩ | refine ⟨⟨rfl, congrArg (SV.int .i64) ei⟩, ?_⟩))), ⟨_, rfl⟩⟩
  · obtain rfl : i = l.length := by omega
    refine gw ?_
    refine n_exit rfl ?_
    (refine gs ?_)
    refine gw ?_
    exact n_ret0 rfl rfl fun ids' w' hp hI' => ⟨rfl, hI'.frm⟩

/-! ### fill -/
abbrev slsV (x : Option Addr × Nat × Nat) : Value := .slice x.1 x.2.1 x.2.2
abbrev mkT (m : Int) : Tm := ⟨-9, m, 0, 0⟩
abbrev marks (m : Int) (n : Nat) : List Value := tms (List.replicate n (mkT m))
theorem marks_len (m : Int) (n : Nat) : (marks m n).length = n * 4 := by rw [tms_len]; simp
theorem marks_next (m : Int) (n : Nat) : marks m n ++ (mkT m).l = marks m (n + 1) := by rw [tms_add]; simp [marks, List.replicate_succ']
theorem marks_pre (m : Int) {n k : Nat} (h : n ≤ k) : marks m n <+: marks m k := by
  refine ⟨marks m (k - n), ?_⟩
  rw [← tms_app, List.replicate_append_replicate]
  congr 2; omega
theorem kfill_ok {o : Option Addr} {n cap : Nat} {l : List Value} {m : Int} {w : World} (hl : l.length = n * 4) (hn : n ≤ 1099511627776) (hR : (tRow o n cap l).R w) :
    Calls Try.prog 41 #[.slice o n cap, .int .i64 m] w fun e w' => e = .returned (.tuple #[]) ∧ Post (tRow o n cap l) (tRow o n cap (marks m n)) w w' := by
  have hI : Inv (cx 16 [] (tRow o n cap l).fp w) w [0] [⟨54, [.res (tRow o n cap l)], true⟩] := (Inv.nil w).consR (by simp) hR (rowRes_lt hR) (by simp)
  refine calls_sm (cx 16 [] (tRow o n cap l).fp w) (vals := [.raw (.slice o n cap), .int .i64 m]) mixed Try.func41 rfl rfl rfl hI rfl (st rfl ?_); conv => arg 3; whnf
  refine gw ?_
  refine n_loop (σ := Nat) (fun i => [(0, .raw (.slice o n cap)), (1, .int .i64 m), (4, .int .i64 (i : Nat))]) (fun i => [⟨54, [.res (tRow o n cap (marks m i ++ l.drop (i * 4)))], true⟩]) (fun i => i ≤ n) (fun i => n - i) 0 mixed (by omega) (fun _ _ => rfl) (by simp [marks, tms]) (by (repeat (first | exact trivial | refine ⟨⟨rfl, rfl⟩, ?_⟩))) (fun s _ => ⟨by (repeat (first | exact trivial | refine ⟨⟨_, rfl⟩, ?_⟩)), by (repeat (first | exact trivial | refine ⟨⟨_, rfl⟩, ?_⟩))⟩) fun i hi => ?_
  (refine gs ?_)
  by_cases hil : i < n
  · have ei : IntKind.i64.wrap ((i : Int) + 1) = ((i + 1 : Nat) : Int) := by rw [w64 (by omega) (by omega)]; simp
    obtain ⟨g, rfl⟩ := rowRes_some' hR (by omega)
    refine gw ?_
    refine n_storeRow (g := g) (off := i * 4) (k := 4) (rv := .agg (mkT m).sv) (v := (mkT m).val) 0 (marks m (i + 1) ++ l.drop ((i + 1) * 4)) rfl rfl rfl ((show _ = (⟨g, 0, none⟩ : Addr).add (i * 4) from rfl).trans (by rw [add_mk])) rfl rfl sizeTm rfl rfl rfl (by rw [List.length_append, marks_len, List.length_drop, hl]; omega) ?_ ?_
    · rw [List.take_append_of_le_length (by rw [marks_len]; omega), List.take_of_length_le (by rw [marks_len]; omega), List.drop_append, List.drop_of_length_le (by rw [marks_len]; omega), List.nil_append, List.drop_drop, marks_len, show i * 4 + (i * 4 + 4 - i * 4) = (i + 1) * 4 by omega]
      rw [← marks_next]
      rfl
    (refine gs ?_)
    refine gw ?_
    exact n_again ⟨i + 1, by omega, by omega, (by (repeat (first | exact trivial | refine ⟨⟨rfl, rfl⟩, ?_⟩ | refine ⟨⟨rfl, congrArg (SV.int .i64) ei⟩, ?_⟩))), ⟨_, rfl⟩⟩
  · obtain rfl : i = n := by omega
    refine gw ?_
    refine n_exit rfl ?_
    (refine gs ?_)
    refine n_end0 rfl rfl fun ids' w' hp hI' => ⟨rfl, ?_⟩
    have h := post_res (ρ := tRow o i cap l) (ρ' := tRow o i cap (marks m i ++ l.drop (i * 4))) hI' rfl 0 rfl rfl rfl
    rwa [List.drop_of_length_le (by omega), List.append_nil] at h

/-! ### A keep whose lists are marked -/
structure Kp where
  lo : Option Addr
  lc : Nat
  Ls : List (Option Addr × Nat × Nat)
  mo : Option Addr
  mc : Nat
  Ms : List Int
  G : List (Option Addr × List Value)
abbrev lsRow (o : Option Addr) (c : Nat) (L : List (Option Addr × Nat × Nat)) : Res := rowRes 31 1 o L.length c (L.map slsV)
abbrev msRow (o : Option Addr) (c : Nat) (L : List Int) : Res := rowRes 3 1 o L.length c (ints L)
abbrev kpMem (K : Kp) : Mem := [⟨51, [.lit false, .raw (.slice K.lo K.Ls.length K.lc), .raw (.slice none 0 0), .raw (.slice K.mo K.Ms.length K.mc)], true⟩, ⟨31, [.res (lsRow K.lo K.lc K.Ls)], true⟩, ⟨3, [.res (msRow K.mo K.mc K.Ms)], true⟩, ⟨54, [.res (rdsRes K.G)], true⟩]
abbrev kpRes (p : Nat) (K : Kp) : Res := memRes [p, 0, 0, 0] (kpMem K)
/-- Every list is full of its mark. -/
def Full (Ls : List (Option Addr × Nat × Nat)) (Ms : List Int) (G : List (Option Addr × List Value)) : Prop :=
  Ls.length = Ms.length ∧ (∀ (i : Nat) (x : Option Addr × Nat × Nat) (m : Int), Ls[i]? = some x → Ms[i]? = some m → ∃ y ∈ G, y.1 = x.1 ∧ marks m x.2.1 <+: y.2) ∧ (∀ m ∈ Ms, 0 ≤ m ∧ m ≤ 1099511627776) ∧ ∀ x ∈ Ls, x.2.1 ≤ 1099511627776
theorem Full.mono {Ls : List (Option Addr × Nat × Nat)} {Ms : List Int} {G G' : List (Option Addr × List Value)} (h : Full Ls Ms G) (hG : ∀ y ∈ G, ∃ z ∈ G', z.1 = y.1 ∧ y.2 <+: z.2) : Full Ls Ms G' :=
  ⟨h.1, fun i x m hx hm => by
    obtain ⟨y, hy, e, hp⟩ := h.2.1 i x m hx hm
    obtain ⟨z, hz, e2, hp2⟩ := hG y hy
    exact ⟨z, hz, e2.trans e, hp.trans hp2⟩, h.2.2⟩
theorem Full.add {Ls : List (Option Addr × Nat × Nat)} {Ms : List Int} {G : List (Option Addr × List Value)} (h : Full Ls Ms G) {x : Option Addr × Nat × Nat} {m : Int} (hm : 0 ≤ m ∧ m ≤ 1099511627776) (hx : x.2.1 ≤ 1099511627776) (hG : ∃ y ∈ G, y.1 = x.1 ∧ marks m x.2.1 <+: y.2) : Full (Ls ++ [x]) (Ms ++ [m]) G := by
  obtain ⟨h1, h2, h3, h4⟩ := h
  refine ⟨by simp [h1], fun i x' m' hx' hm' => ?_, fun m' hm' => ?_, fun x' hx' => ?_⟩
  · rcases Nat.lt_or_ge i Ls.length with hi | hi
    · rw [List.getElem?_append_left hi] at hx'
      rw [List.getElem?_append_left (by omega)] at hm'
      exact h2 i x' m' hx' hm'
    · have hi0 : i = Ls.length := by have := (List.getElem?_eq_some_iff.1 hx').1; simp at this; omega
      subst hi0
      simp at hx'
      rw [h1] at hm'
      simp at hm'
      subst hx'; subst hm'
      exact hG
  · rcases List.mem_append.1 hm' with h | h
    · exact h3 _ h
    · simp at h; subst h; exact hm
  · rcases List.mem_append.1 hx' with h | h
    · exact h4 _ h
    · simp at h; subst h; exact hx
def Kp.ok (K : Kp) : Prop := Full K.Ls K.Ms K.G
structure Hs where
  i : Nat
  lo : Option Addr
  lc : Nat
  Ls : List (Option Addr × Nat × Nat)
  mo : Option Addr
  mc : Nat
  Ms : List Int
  fo : Option Addr
  fc : Nat
  G : List (Option Addr × List Value)
theorem khold_ok {p : Nat} {K : Kp} {o : Option Addr} {n cap : Nat} {m : Int} {w : World} (hm : 0 ≤ m ∧ m ≤ 1099511627776) (hn : n ≤ 10995116277) (hK : K.ok) (hKl : K.Ls.length ≤ 1099511627776) (hR : ((kpRes p K).both (tRow o n cap (marks m n))).R w) :
    Calls Try.prog 42 #[pV p, .slice o n cap, .int .i64 m] w fun e w' => ∃ K' : Kp, e = .returned (.tuple #[]) ∧ (K'.ok ∧ K'.Ls.length ≤ K.Ls.length + 41) ∧ Post ((kpRes p K).both (tRow o n cap (marks m n))) (kpRes p K') w w' := by
  have hlen := hK.1
  obtain ⟨hRk, hRl, hap⟩ := hR
  obtain ⟨its, hits, hps⟩ := Option.map_eq_some_iff.1 infoSl
  simp only [Prod.mk.injEq] at hps
  obtain ⟨iti, hiti, hpi⟩ := Option.map_eq_some_iff.1 infoInt
  simp only [Prod.mk.injEq] at hpi
  obtain ⟨itt, hitt, hpt⟩ := Option.map_eq_some_iff.1 infoTm
  simp only [Prod.mk.injEq] at hpt
  have hI0 : Inv (cx 64 [] ((kpRes p K).both (tRow o n cap (marks m n))).fp w) w [p, 0, 0, 0] (kpMem K) := memRes_open hRk fun x hx => List.mem_append.2 (.inl hx)
  have hI := hI0.consR (t := 54) (rw_ := true) (r := tRow o n cap (marks m n)) (fun x hx hx' => hap x hx' hx) hRl (rowRes_lt hRl) (fun _ x hx => List.mem_append.2 (.inr hx))
  have hf0 : Full (K.Ls ++ [(o, n, cap)]) (K.Ms ++ [m]) ((o, marks m n) :: K.G) := (Full.mono hK fun y hy => ⟨y, by simp [hy], rfl, List.prefix_refl _⟩).add hm (by dsimp only; omega) ⟨_, List.mem_cons_self, rfl, List.prefix_refl _⟩
  refine calls_sm (cx 64 [] ((kpRes p K).both (tRow o n cap (marks m n))).fp w) (vals := [.ptr 0 0, .raw (.slice o n cap), .int .i64 m]) mixed Try.func42 rfl rfl rfl hI rfl (st rfl ?_); conv => arg 3; whnf
  refine gw ?_
  refine n_build1 rfl rfl elemSl rfl rfl rfl rfl rfl rfl rfl rfl rfl ?_
  (refine gs ?_)
  refine gw ?_
  refine n_append (nv := [slsV (o, n, cap)]) 1 rfl rfl elemSl hits hps.1 hps.2.1 hps.2.2 rfl (by omega) rfl rfl rfl rfl rfl rfl (by omega) (by simp [Value.oneCell']) (by omega) (by omega) (show K.Ls.map slsV ++ [slsV (o, n, cap)] = (K.Ls ++ [(o, n, cap)]).map slsV by simp) fun g1 c1 => ?_
  (refine gs ?_)
  refine gw ?_
  refine n_build1 rfl rfl elemInt rfl rfl rfl rfl rfl rfl rfl rfl rfl ?_
  (refine gs ?_)
  refine gw ?_
  refine n_append (nv := [.int .i64 m]) 2 rfl rfl elemInt hiti hpi.1 hpi.2.1 hpi.2.2 rfl (by omega) rfl rfl rfl rfl rfl rfl (by omega) (by simp [Value.oneCell']) (by omega) (by omega) (show ints K.Ms ++ [.int .i64 m] = ints (K.Ms ++ [m]) by simp) fun g2 c2 => ?_
  (refine gs ?_)
  refine gw ?_
  refine n_loopI _ (fun _ _ _ hI1 => hI1.absorb 3 4 (by decide) rfl rfl rfl rfl rfl rfl) ?_
  refine n_loop2 rfl fun b5 b6 => ?_
  have e1 : (K.Ls ++ [(o, n, cap)]).length = K.Ls.length + 1 := by simp
  have e2 : (K.Ms ++ [m]).length = K.Ms.length + 1 := by simp
  rw [← e1, ← e2]
  refine n_loop (σ := Hs) (fun t => [(0, .ptr 0 0), (2, .int .i64 m), (6, .raw (.slice t.fo (n + t.i) t.fc)), (7, .int .i64 (t.i : Nat))]) (fun t => [⟨51, [.lit false, .raw (.slice (t).lo (t).Ls.length (t).lc), .raw (.slice none 0 0), .raw (.slice (t).mo (t).Ms.length (t).mc)], true⟩, ⟨31, [.res (lsRow (t).lo (t).lc (t).Ls)], true⟩, ⟨3, [.res (msRow (t).mo (t).mc (t).Ms)], true⟩, ⟨54, [.res (growRes 54 4 (t).fo (n + (t).i) (t).fc (marks m (n + (t).i)) (t).G)], true⟩, ⟨54, [.res Res.none], true⟩, ⟨31, [.raw (.slice o n cap)], true⟩, ⟨3, [.int .i64 m], true⟩]) (fun t => t.i ≤ 40 ∧ t.Ls.length ≤ K.Ls.length + 1 + t.i ∧ Full t.Ls t.Ms ((t.fo, marks m (n + t.i)) :: t.G)) (fun t => 40 - t.i) ⟨0, some ⟨g1, 0, none⟩, c1, K.Ls ++ [(o, n, cap)], some ⟨g2, 0, none⟩, c2, K.Ms ++ [m], o, cap, K.G⟩ mixed ⟨by dsimp only; omega, by dsimp only; omega, hf0⟩ (fun _ _ => rfl) rfl (by (repeat (first | exact trivial | refine ⟨⟨rfl, rfl⟩, ?_⟩))) (fun s _ => ⟨by (repeat (first | exact trivial | refine ⟨⟨_, rfl⟩, ?_⟩)), by (repeat (first | exact trivial | refine ⟨⟨_, rfl⟩, ?_⟩))⟩) fun t ht => ?_
  obtain ⟨i, lo, lc, Ls, mo, mc, Ms, fo, fc, G⟩ := t
  obtain ⟨hi, hl, hf⟩ := ht
  dsimp only at hi hl hf ⊢
  have hlen2 := hf.1
  (refine gs ?_)
  by_cases hil : i < 40
  · have ei : IntKind.i64.wrap ((i : Int) + 1) = ((i + 1 : Nat) : Int) := by rw [w64 (by omega) (by omega)]; simp
    (repeat ((first | refine n_must rfl ?_ | refine n_chk (drawF_ok (by decide +kernel)) ?_ | refine n_same rfl ?_ | ((first | refine n_must ?_ ?_ | refine n_brT ?_ ?_); (focus (first | (simp [hil]; done) | (simp [hil]; omega) | (simp only [hil]; simp; done)))) | (refine n_brF ?_ ?_; (focus (first | (simp [hil]; done) | (simp [hil]; omega) | (simp only [hil]; simp; done)))) | refine n_must (by (with_reducible refine and_shape ?_) <;> kernel_rfl) ?_); (refine gs ?_)))
    refine n_build1 rfl rfl elemTm rfl rfl rfl rfl rfl rfl rfl rfl rfl ?_
    (refine gs ?_)
    refine gw ?_
    refine n_appendK (nv := (mkT m).l) 3 rfl rfl elemTm hitt hpt.1 hpt.2.1 hpt.2.2 rfl (by omega) rfl rfl rfl rfl rfl rfl (by omega) (by simp [Value.oneCell']) (by omega) (by omega) (show marks m (n + i) ++ (mkT m).l = marks m (n + (i + 1)) by rw [marks_next]; rfl) fun g3 c3 G' hG' => ?_
    have hf1 : Full Ls Ms ((some ⟨g3, 0, none⟩, marks m (n + (i + 1))) :: G') := Full.mono hf fun y hy => by
      rcases List.mem_cons.1 hy with rfl | hy
      · rcases hG' with ⟨e, rfl⟩ | rfl
        · exact ⟨_, List.mem_cons_self, e.symm, marks_pre m (by omega)⟩
        · exact ⟨(fo, marks m (n + i)), by simp, rfl, List.prefix_refl _⟩
      · rcases hG' with ⟨e, rfl⟩ | rfl
        · exact ⟨y, by simp [hy], rfl, List.prefix_refl _⟩
        · exact ⟨y, by simp [hy], rfl, List.prefix_refl _⟩
    have hf2 : Full (Ls ++ [(some ⟨g3, 0, none⟩, n + i + 1, c3)]) (Ms ++ [m]) ((some ⟨g3, 0, none⟩, marks m (n + (i + 1))) :: G') := hf1.add hm (by dsimp only; omega) ⟨_, List.mem_cons_self, rfl, List.prefix_refl _⟩
    (refine gs ?_)
    by_cases h16 : i < 16
    · (repeat ((first | refine n_must rfl ?_ | refine n_chk (drawF_ok (by decide +kernel)) ?_ | refine n_same rfl ?_ | ((first | refine n_must ?_ ?_ | refine n_brT ?_ ?_); (focus (first | (simp [h16]; done) | (simp [h16]; omega) | (simp only [h16]; simp; done)))) | (refine n_brF ?_ ?_; (focus (first | (simp [h16]; done) | (simp [h16]; omega) | (simp only [h16]; simp; done)))) | refine n_must (by (with_reducible refine and_shape ?_) <;> kernel_rfl) ?_); (refine gs ?_)))
      refine n_build1 rfl rfl elemSl rfl rfl rfl rfl rfl rfl rfl rfl rfl ?_
      (refine gs ?_)
      refine gw ?_
      refine n_append (nv := [slsV (some ⟨g3, 0, none⟩, n + i + 1, c3)]) 1 rfl rfl elemSl hits hps.1 hps.2.1 hps.2.2 rfl (by omega) rfl rfl rfl rfl rfl rfl (by omega) (by simp [Value.oneCell']) (by omega) (by omega) (show Ls.map slsV ++ [slsV (some (⟨g3, 0, none⟩ : Addr), n + i + 1, c3)] = (Ls ++ [(some (⟨g3, 0, none⟩ : Addr), n + i + 1, c3)]).map slsV by simp) fun g4 c4 => ?_
      (refine gs ?_)
      refine gw ?_
      refine n_build1 rfl rfl elemInt rfl rfl rfl rfl rfl rfl rfl rfl rfl ?_
      (refine gs ?_)
      refine gw ?_
      refine n_append (nv := [.int .i64 m]) 2 rfl rfl elemInt hiti hpi.1 hpi.2.1 hpi.2.2 rfl (by omega) rfl rfl rfl rfl rfl rfl (by omega) (by simp [Value.oneCell']) (by omega) (by omega) (show ints Ms ++ [.int .i64 m] = ints (Ms ++ [m]) by simp) fun g5 c5 => ?_
      (refine gs ?_)
      refine gw ?_
      have l1 : (Ls ++ [(some (⟨g3, 0, none⟩ : Addr), n + i + 1, c3)]).length = Ls.length + 1 := by simp
      have l2 : (Ms ++ [m]).length = Ms.length + 1 := by simp
      rw [← l1, ← l2]
      exact n_again ⟨⟨i + 1, some ⟨g4, 0, none⟩, c4, Ls ++ [(some ⟨g3, 0, none⟩, n + i + 1, c3)], some ⟨g5, 0, none⟩, c5, Ms ++ [m], some ⟨g3, 0, none⟩, c3, G'⟩, ⟨by dsimp only; omega, by dsimp only; omega, hf2⟩, by dsimp only; omega, (by (repeat (first | exact trivial | refine ⟨⟨rfl, rfl⟩, ?_⟩ | refine ⟨⟨rfl, congrArg (SV.int .i64) ei⟩, ?_⟩))), ⟨_, rfl⟩⟩
    by_cases h39 : i = 39
    · (repeat ((first | refine n_must rfl ?_ | refine n_chk (drawF_ok (by decide +kernel)) ?_ | refine n_same rfl ?_ | ((first | refine n_must ?_ ?_ | refine n_brT ?_ ?_); (focus (first | (simp [h16, h39]; done) | (simp [h16, h39]; omega) | (simp only [h16, h39]; simp; done)))) | (refine n_brF ?_ ?_; (focus (first | (simp [h16, h39]; done) | (simp [h16, h39]; omega) | (simp only [h16, h39]; simp; done)))) | refine n_must (by (with_reducible refine and_shape ?_) <;> kernel_rfl) ?_); (refine gs ?_)))
      refine n_build1 rfl rfl elemSl rfl rfl rfl rfl rfl rfl rfl rfl rfl ?_
      (refine gs ?_)
      refine gw ?_
      refine n_append (nv := [slsV (some ⟨g3, 0, none⟩, n + i + 1, c3)]) 1 rfl rfl elemSl hits hps.1 hps.2.1 hps.2.2 rfl (by omega) rfl rfl rfl rfl rfl rfl (by omega) (by simp [Value.oneCell']) (by omega) (by omega) (show Ls.map slsV ++ [slsV (some (⟨g3, 0, none⟩ : Addr), n + i + 1, c3)] = (Ls ++ [(some (⟨g3, 0, none⟩ : Addr), n + i + 1, c3)]).map slsV by simp) fun g4 c4 => ?_
      (refine gs ?_)
      refine gw ?_
      refine n_build1 rfl rfl elemInt rfl rfl rfl rfl rfl rfl rfl rfl rfl ?_
      (refine gs ?_)
      refine gw ?_
      refine n_append (nv := [.int .i64 m]) 2 rfl rfl elemInt hiti hpi.1 hpi.2.1 hpi.2.2 rfl (by omega) rfl rfl rfl rfl rfl rfl (by omega) (by simp [Value.oneCell']) (by omega) (by omega) (show ints Ms ++ [.int .i64 m] = ints (Ms ++ [m]) by simp) fun g5 c5 => ?_
      (refine gs ?_)
      refine gw ?_
      have l1 : (Ls ++ [(some (⟨g3, 0, none⟩ : Addr), n + i + 1, c3)]).length = Ls.length + 1 := by simp
      have l2 : (Ms ++ [m]).length = Ms.length + 1 := by simp
      rw [← l1, ← l2]
      exact n_again ⟨⟨i + 1, some ⟨g4, 0, none⟩, c4, Ls ++ [(some ⟨g3, 0, none⟩, n + i + 1, c3)], some ⟨g5, 0, none⟩, c5, Ms ++ [m], some ⟨g3, 0, none⟩, c3, G'⟩, ⟨by dsimp only; omega, by dsimp only; omega, hf2⟩, by dsimp only; omega, (by (repeat (first | exact trivial | refine ⟨⟨rfl, rfl⟩, ?_⟩ | refine ⟨⟨rfl, congrArg (SV.int .i64) ei⟩, ?_⟩))), ⟨_, rfl⟩⟩
    (repeat ((first | refine n_must rfl ?_ | refine n_chk (drawF_ok (by decide +kernel)) ?_ | refine n_same rfl ?_ | ((first | refine n_must ?_ ?_ | refine n_brT ?_ ?_); (focus (first | (simp [h16, h39]; done) | (simp [h16, h39]; omega) | (simp only [h16, h39]; simp; done)))) | (refine n_brF ?_ ?_; (focus (first | (simp [h16, h39]; done) | (simp [h16, h39]; omega) | (simp only [h16, h39]; simp; done)))) | refine n_must (by (with_reducible refine and_shape ?_) <;> kernel_rfl) ?_); (refine gs ?_)))
    exact n_again ⟨⟨i + 1, lo, lc, Ls, mo, mc, Ms, some ⟨g3, 0, none⟩, c3, G'⟩, ⟨by dsimp only; omega, by dsimp only; omega, hf1⟩, by dsimp only; omega, (by (repeat (first | exact trivial | refine ⟨⟨rfl, rfl⟩, ?_⟩ | refine ⟨⟨rfl, congrArg (SV.int .i64) ei⟩, ?_⟩))), ⟨_, rfl⟩⟩
  · obtain rfl : i = 40 := by omega
    refine gw ?_
    refine n_exit rfl ?_
    (refine gs ?_)
    refine n_end0 rfl rfl fun ids' w' hp hI' => ⟨⟨lo, lc, Ls, mo, mc, Ms, (fo, marks m (n + 40)) :: G⟩, rfl, ⟨hf, by dsimp only; omega⟩, ?_⟩
    have hI2 := hI'.lessR 3 rfl rfl rfl grow_end
    exact post_shut (ρ := (kpRes p K).both (tRow o n cap (marks m n))) hI2 rfl [0, 1, 2, 3] (.blk rfl (pre_at hp rfl) rfl rfl (.res rfl (.res rfl (.res rfl .nil)))) (by decide)
end Go.Proofs.Ytjmaddmklogchaa
