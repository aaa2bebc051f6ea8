/- Chapter 5's law: put, both ways. -/
import Derived.Test.YtjmaddmklogchaaWkA
set_option maxRecDepth 100000
set_option linter.unusedSimpArgs false
set_option linter.unusedVariables false
set_option maxHeartbeats 8000000
namespace Go.Proofs.Ytjmaddmklogchaa
open Go.RowKit

theorem kput_ok {p : Nat} {K : Kp} {o : Option Addr} {n cap : Nat} {l : List Value} {w : World} (hl : l.length = n * 4) (hn : n ≤ 10995116277) (hK : K.ok) (hKl : K.Ls.length ≤ 1099511627776) (hR : ((kpRes p K).both (tRow o n cap l)).R w) :
    Calls Try.prog 34 #[pV p, .slice o n cap] w fun e w' => ∃ K' : Kp, e = .returned (.tuple #[]) ∧ (K'.ok ∧ K'.Ls.length ≤ K.Ls.length + 41) ∧ Post ((kpRes p K).both (tRow o n cap l)) (kpRes p K') w w' := by
  have hlen := hK.1
  obtain ⟨hRk, hRl, hap⟩ := hR
  have hI0 : Inv (cx 42 [(2, .of [(0, []), (1, []), (2, []), (3, []), (4, []), (5, []), (6, [4]), (7, [4]), (8, []), (9, []), (10, []), (11, [])])] ((kpRes p K).both (tRow o n cap l)).fp w) w [0] [⟨51, [.res (kpRes p K)], true⟩] := (Inv.nil w).consR (by simp) hRk (memRes_lt hRk) (fun _ x hx => List.mem_append.2 (.inl hx))
  have hI := hI0.consR (t := 54) (rw_ := true) (r := tRow o n cap l) (fun x hx hx' => hap x (by simpa [fpsOf, resOf] using hx') hx) hRl (rowRes_lt hRl) (fun _ x hx => List.mem_append.2 (.inr hx))
  refine calls_sm (cx 42 [(2, .of [(0, []), (1, []), (2, []), (3, []), (4, []), (5, []), (6, [4]), (7, [4]), (8, []), (9, []), (10, []), (11, [])])] ((kpRes p K).both (tRow o n cap l)).fp w) (vals := [.raw (pV p), .raw (.slice o n cap)]) mixed Try.func34 rfl rfl rfl hI rfl (st rfl ?_); conv => arg 3; whnf
  refine gw ?_
  refine n_ldI (.lit false) rfl rfl (fun _ w1 _ hI1 => load_cell aggBool (blk_at (memRes_blk (hI1.res 0 rfl rfl) 0 rfl rfl rfl) (j := 0) rfl rfl)) ?_
  (refine gs ?_)
  refine gw ?_
  refine n_ldI (.raw (.slice K.mo K.Ms.length K.mc)) rfl rfl (fun _ w1 _ hI1 => load_cell aggInts (blk_at (memRes_blk (hI1.res 0 rfl rfl) 0 rfl rfl rfl) (j := 3) rfl rfl)) ?_
  (refine gs ?_)
  refine gw ?_
  refine n_callR (Y := Unit) 1 (fun _ => tRow o n cap (marks K.Ms.length n)) (fun _ => .tup []) (fun _ => .tuple #[]) (fun _ => True) rfl rfl (fun _ => rfl) rfl rfl rfl (fun _ w1 _ hI1 hR1 => (kfill_ok hl (by omega) hR1).mono fun e w' ⟨he, hf⟩ => ⟨(), he, trivial, hf⟩) ?_
  intro _ _
  (refine gs ?_)
  refine gw ?_
  refine n_callX [] _ rfl (fun w1 hI1 => by rw [List.append_nil]; exact hI1.absorb 0 1 (by decide) rfl rfl rfl rfl rfl rfl) ?_
  refine n_callR (Y := Kp) 0 (fun K' => kpRes p K') (fun _ => .tup []) (fun _ => .tuple #[]) (fun K' => K'.ok ∧ K'.Ls.length ≤ K.Ls.length + 41) rfl rfl (fun _ => rfl) rfl rfl rfl (fun _ w1 _ hI1 hR1 => khold_ok (by omega) hn hK hKl hR1) ?_
  intro K' hK'
  (refine gs ?_)
  refine gw ?_
  refine n_end0 rfl rfl fun ids' w' hp hI' => ⟨K', rfl, hK', ?_⟩
  exact post_res (ρ := (kpRes p K).both (tRow o n cap l)) (ρ' := kpRes p K') hI' rfl 0 rfl rfl rfl

/-! ### A keep whose lists are left as they are -/
structure Le where
  o : Option Addr
  cap : Nat
  xs : List Tm
  o2 : Option Addr
  c2 : Nat
structure Kl where
  lo : Option Addr
  lc : Nat
  wo : Option Addr
  wc : Nat
  E : List Le
abbrev Le.s1 (e : Le) : Value := .slice e.o e.xs.length e.cap
abbrev Le.s2 (e : Le) : Value := .slice e.o2 e.xs.length e.c2
abbrev Le.res (e : Le) : Res := tRow e.o e.xs.length e.cap (tms e.xs)
abbrev svRow (o : Option Addr) (n c : Nat) (L : List Value) : Res := rowRes 31 1 o n c L
abbrev Kl.G (E : List Le) : List (Option Addr × List Value) := E.map fun e => (e.o2, tms e.xs)
abbrev klMem (K : Kl) : Mem := [⟨51, [.lit true, .raw (.slice K.lo K.E.length K.lc), .raw (.slice K.wo K.E.length K.wc), .raw (.slice none 0 0)], true⟩, ⟨31, [.res (svRow K.lo K.E.length K.lc (K.E.map Le.s1))], true⟩, ⟨31, [.res (svRow K.wo K.E.length K.wc (K.E.map Le.s2))], true⟩, ⟨54, [.res (allRes (K.E.map Le.res))], true⟩, ⟨54, [.res (rdsRes (Kl.G K.E))], true⟩]
abbrev klRes (p : Nat) (K : Kl) : Res := memRes [p, 0, 0, 0, 0] (klMem K)
theorem rds_add {E : List Le} {e : Le} {w : World} (h : ((rdsRes (Kl.G E)).both (tRow e.o2 e.xs.length e.c2 (tms e.xs))).R w) : (rdsRes (Kl.G (E ++ [e]))).R w ∧ ∀ x ∈ (rdsRes (Kl.G (E ++ [e]))).fp, x ∈ ((rdsRes (Kl.G E)).both (tRow e.o2 e.xs.length e.c2 (tms e.xs))).fp := by
  obtain ⟨h1, h2, _⟩ := h
  have hmem : ∀ y ∈ Kl.G (E ++ [e]), y ∈ Kl.G E ∨ y = (e.o2, tms e.xs) := by
    intro y hy
    simp only [Kl.G, List.map_append, List.mem_append] at hy
    rcases hy with hy | hy
    · exact .inl hy
    · exact .inr (by simpa using hy)
  refine ⟨fun y hy => ?_, fun x hx => ?_⟩
  · rcases hmem y hy with hy | rfl
    · exact h1 y hy
    · exact rd_of_row h2
  · obtain ⟨y, hy, hx⟩ := List.mem_flatMap.1 hx
    rcases hmem y hy with hy | rfl
    · exact List.mem_append.2 (.inl (List.mem_flatMap.2 ⟨y, hy, hx⟩))
    · exact List.mem_append.2 (.inr (rd_inR hx))
theorem lput_ok {p : Nat} {K : Kl} {o : Option Addr} {cap : Nat} {xs : List Tm} {w : World} (hn : xs.length ≤ 10995116277) (hKl : K.E.length ≤ 1099511627776) (hR : ((klRes p K).both (tRow o xs.length cap (tms xs))).R w) :
    Calls Try.prog 34 #[pV p, .slice o xs.length cap] w fun e w' => ∃ K' : Kl, e = .returned (.tuple #[]) ∧ (∃ e : Le, e.xs = xs ∧ K'.E = K.E ++ [e]) ∧ Post ((klRes p K).both (tRow o xs.length cap (tms xs))) (klRes p K') w w' := by
  obtain ⟨hRk, hRl, hap⟩ := hR
  obtain ⟨its, hits, hps⟩ := Option.map_eq_some_iff.1 infoSl
  simp only [Prod.mk.injEq] at hps
  obtain ⟨itt, hitt, hpt⟩ := Option.map_eq_some_iff.1 infoTm
  simp only [Prod.mk.injEq] at hpt
  have hI0 : Inv (cx 42 [(2, .of [(0, []), (1, []), (2, []), (3, []), (4, []), (5, []), (6, [4]), (7, [4]), (8, []), (9, []), (10, []), (11, [])])] ((klRes p K).both (tRow o xs.length cap (tms xs))).fp w) w [p, 0, 0, 0, 0] (klMem K) := memRes_open hRk fun x hx => List.mem_append.2 (.inl hx)
  have hI := hI0.consR (t := 54) (rw_ := true) (r := tRow o xs.length cap (tms xs)) (fun x hx hx' => hap x hx' hx) hRl (rowRes_lt hRl) (fun _ x hx => List.mem_append.2 (.inr hx))
  refine calls_sm (cx 42 [(2, .of [(0, []), (1, []), (2, []), (3, []), (4, []), (5, []), (6, [4]), (7, [4]), (8, []), (9, []), (10, []), (11, [])])] ((klRes p K).both (tRow o xs.length cap (tms xs))).fp w) (vals := [.ptr 0 0, .raw (.slice o xs.length cap)]) mixed Try.func34 rfl rfl rfl hI rfl (st rfl ?_); conv => arg 3; whnf
  refine gw ?_
  refine n_build1 rfl rfl elemSl rfl rfl rfl rfl rfl rfl rfl rfl rfl ?_
  (refine gs ?_)
  refine gw ?_
  refine n_append (nv := [.slice o xs.length cap]) 1 rfl rfl elemSl hits hps.1 hps.2.1 hps.2.2 rfl (by omega) rfl rfl rfl rfl rfl rfl (by omega) (by simp [Value.oneCell']) (by omega) (by omega) rfl fun g1 c1 => ?_
  (refine gs ?_)
  refine gw ?_
  refine n_op1 rfl fun b6 => ?_
  refine n_appendN (nv := tms xs) rfl rfl rfl elemTm hitt hpt.1 hpt.2.1 hpt.2.2 rfl (by omega) rfl rfl (tms_len xs) (fun _ w1 _ hI1 => rd_of_row (hI1.res 5 rfl rfl)) (tms_one xs) (by omega) (by omega) ?_
  rintro ⟨o2, c2⟩ hc2
  (refine gs ?_)
  refine gw ?_
  refine n_build1 rfl rfl elemSl rfl rfl rfl rfl rfl rfl rfl rfl rfl ?_
  (refine gs ?_)
  refine gw ?_
  refine n_append (nv := [.slice o2 xs.length c2]) 2 rfl rfl elemSl hits hps.1 hps.2.1 hps.2.2 rfl (by omega) rfl rfl rfl rfl rfl rfl (by omega) (by simp [Value.oneCell']) (by omega) (by omega) rfl fun g2 c2' => ?_
  (refine gs ?_)
  refine gw ?_
  refine n_ret0 rfl rfl fun ids' w' hp hI' => ⟨⟨some ⟨g1, 0, none⟩, c1, some ⟨g2, 0, none⟩, c2', K.E ++ [⟨o, cap, xs, o2, c2⟩]⟩, rfl, ⟨_, rfl, rfl⟩, ?_⟩
  have hI2 := hI'.join 3 5 (by decide) rfl rfl rfl rfl rfl rfl all_add
  have hI3 := hI2.absorb 4 7 (by decide) rfl rfl rfl rfl rfl rfl
  have hI4 := hI3.lessR 4 (ρ' := rdsRes (Kl.G (K.E ++ [⟨o, cap, xs, o2, c2⟩]))) rfl rfl rfl (rds_add (E := K.E) (e := ⟨o, cap, xs, o2, c2⟩))
  have eM : klMem ⟨some ⟨g1, 0, none⟩, c1, some ⟨g2, 0, none⟩, c2', K.E ++ [⟨o, cap, xs, o2, c2⟩]⟩ = [⟨51, [.lit true, .raw (.slice (some ⟨g1, 0, none⟩) (K.E.length + 1) c1), .raw (.slice (some ⟨g2, 0, none⟩) (K.E.length + 1) c2'), .raw (.slice none 0 0)], true⟩, ⟨31, [.res (svRow (some ⟨g1, 0, none⟩) (K.E.length + 1) c1 (K.E.map Le.s1 ++ [.slice o xs.length cap]))], true⟩, ⟨31, [.res (svRow (some ⟨g2, 0, none⟩) (K.E.length + 1) c2' (K.E.map Le.s2 ++ [.slice o2 xs.length c2]))], true⟩, ⟨54, [.res (allRes (K.E.map Le.res ++ [tRow o xs.length cap (tms xs)]))], true⟩, ⟨54, [.res (rdsRes (Kl.G (K.E ++ [⟨o, cap, xs, o2, c2⟩])))], true⟩] := by
    simp [klMem]
  have h := post_shut (ids := [p, 0, 0, 0, 0]) (mem := [⟨51, [.lit true, .raw (.slice (some ⟨g1, 0, none⟩) (K.E.length + 1) c1), .raw (.slice (some ⟨g2, 0, none⟩) (K.E.length + 1) c2'), .raw (.slice none 0 0)], true⟩, ⟨31, [.res (svRow (some ⟨g1, 0, none⟩) (K.E.length + 1) c1 (K.E.map Le.s1 ++ [.slice o xs.length cap]))], true⟩, ⟨31, [.res (svRow (some ⟨g2, 0, none⟩) (K.E.length + 1) c2' (K.E.map Le.s2 ++ [.slice o2 xs.length c2]))], true⟩, ⟨54, [.res (allRes (K.E.map Le.res ++ [tRow o xs.length cap (tms xs)]))], true⟩, ⟨54, [.res (rdsRes (Kl.G (K.E ++ [⟨o, cap, xs, o2, c2⟩])))], true⟩]) (ρ := (klRes p K).both (tRow o xs.length cap (tms xs))) hI4 rfl [0, 1, 2, 3, 4] (.blk rfl (pre_at hp rfl) rfl rfl (.res rfl (.res rfl (.res rfl (.res rfl .nil))))) (by decide)
  rw [← eM] at h
  exact h
end Go.Proofs.Ytjmaddmklogchaa
