/- Parts gathered into one part ahead of a call, and spread again. -/
import Derived.Test.YtglafgpjgkphkaaGreatDoorBs
set_option linter.unusedVariables false
set_option linter.unusedSimpArgs false
namespace Go.Proofs.YtglafgpjgkphkaaGreatDoor
open Go.RowKit

def kill (mem : Mem) : List Nat → Mem
  | [] => mem
  | i :: ix => kill (setCells mem i [.res Res.none]) ix
theorem setCells_len {cs : List SV} : ∀ {mem : Mem} {i : Nat}, (setCells mem i cs).length = mem.length
  | [], _ => rfl
  | ⟨_, _, _⟩ :: _, 0 => rfl
  | ⟨_, _, _⟩ :: xs, n + 1 => by simp [setCells, setCells_len (mem := xs)]
theorem nth_setCells_cases {cs : List SV} {mem : Mem} {i k : Nat} {b : SBlk} (h : nth (setCells mem i cs) k = some b) : (k = i ∧ b.cells = cs) ∨ (k ≠ i ∧ nth mem k = some b) := by
  by_cases e : i = k
  · subst e
    left
    cases hm : nth mem i with
    | some b0 =>
      rw [nth_setCells hm] at h
      simp at h; subst h
      exact ⟨rfl, rfl⟩
    | none =>
      exfalso
      have h1 := nth_lt h
      rw [setCells_len] at h1
      rw [nth_eq, List.getElem?_eq_getElem h1] at hm
      cases hm
  · rw [nth_setCells_ne e] at h
    exact .inr ⟨fun e2 => e e2.symm, h⟩
theorem kill_len : ∀ {ix : List Nat} {mem : Mem}, (kill mem ix).length = mem.length
  | [], mem => rfl
  | i :: ix, mem => by rw [kill, kill_len, setCells_len]
theorem kill_at : ∀ {ix : List Nat} {mem : Mem} {i : Nat} {b : SBlk}, nth (kill mem ix) i = some b → resOf b = some Res.none ∨ (i ∉ ix ∧ nth mem i = some b)
  | [], mem, i, b, h => .inr ⟨by simp, h⟩
  | k :: ix, mem, i, b, h => by
    rcases kill_at (ix := ix) (mem := setCells mem k [.res Res.none]) h with h | ⟨h1, h2⟩
    · exact .inl h
    · rcases nth_setCells_cases h2 with ⟨rfl, h3⟩ | ⟨h3, h4⟩
      · left
        obtain ⟨t, cs, q⟩ := b
        simp at h3; subst h3; rfl
      · exact .inr ⟨by simp [h1, h3], h4⟩

section
variable {c : Ctx} {Q : SExit → Fr → Mem → List Nat → World → Prop} {ids : List Nat} {w : World} {fr : Fr} {mem : Mem} {todo : List Task}
/-- The parts ix as one part, behind all others. -/
theorem Inv.gather (hI : Inv c w ids mem) (ix : List Nat) {ids0 : List Nat} {mem0 : Mem} (h : Sel true ids mem ix ids0 mem0) (hnd : ix.Nodup) (t : TypeId) : Inv c w (ids ++ [0]) (kill mem ix ++ [⟨t, [.res (memRes ids0 mem0)], true⟩]) := by
  obtain ⟨h1, h2⟩ := memRes_shut hI ix h hnd
  have hlen := hI.len
  obtain ⟨e1, e2, hat⟩ := h.at_
  have hkl : (kill mem ix).length = mem.length := kill_len
  have hfp : ∀ x ∈ (memRes ids0 mem0).fp, ∃ i b, i ∈ ix ∧ nth mem i = some b ∧ x ∈ fpOf ids i b := by
    intro x hx
    obtain ⟨k, b, hb, hx⟩ := fpsOf_inv e1 hx
    obtain ⟨i, b', h1, h2, h3, h4⟩ := hat k b hb
    refine ⟨i, b', List.mem_of_getElem? h1, h2, ?_⟩
    rcases h4 with ⟨r, h4, h5⟩ | ⟨n, l, h4, h5, h6, h7, h8⟩
    · rw [fpOf_res h5]; rwa [fpOf_res h4] at hx
    · rw [fpOf_cells (resOf_cells h7) h5]; rwa [fpOf_cells (resOf_cells h6) h4] at hx
  have hL : ∀ i b, i < ids.length → fpOf (ids ++ [0]) i b = fpOf ids i b := fun i b hi => fpOf_ids (List.prefix_append _ _) hi
  have hcase : ∀ i b, nth (kill mem ix ++ [⟨t, [.res (memRes ids0 mem0)], true⟩]) i = some b → (i < ids.length ∧ resOf b = some Res.none) ∨ (i < ids.length ∧ i ∉ ix ∧ nth mem i = some b) ∨ (i = ids.length ∧ resOf b = some (memRes ids0 mem0)) := by
    intro i b hb
    rcases Nat.lt_or_ge i (kill mem ix).length with hi | hi
    · rw [nth_app_left hi] at hb
      rcases kill_at hb with h | ⟨h, h'⟩
      · exact .inl ⟨by omega, h⟩
      · exact .inr (.inl ⟨by omega, h, h'⟩)
    · rw [nth_app_right hi] at hb
      right; right
      have h0 : i - (kill mem ix).length = 0 := by
        have := nth_lt hb
        simp at this; omega
      rw [h0] at hb
      simp [nth] at hb
      subst hb
      exact ⟨by omega, rfl⟩
  refine ⟨hI.frm, by simp [hkl, hlen], ?_, ?_, ?_⟩
  · intro i b hb
    rcases hcase i b hb with ⟨_, hr⟩ | ⟨hi, _, hb⟩ | ⟨_, hr⟩
    · unfold Good; rw [hr]; exact ⟨trivial, fun x hx => absurd hx (by simp [Res.none])⟩
    · exact (hI.good i b hb).ids (List.prefix_append _ _) hi
    · unfold Good; rw [hr]; exact ⟨h1, memRes_lt h1⟩
  · intro i j bi bj hi hj hij x hx hxj
    rcases hcase i bi hi with ⟨_, hr⟩ | ⟨hil, hni, hbi⟩ | ⟨hie, hr⟩
    · rw [fpOf_res hr] at hx; simp [Res.none] at hx
    · rw [hL i bi hil] at hx
      rcases hcase j bj hj with ⟨_, hr'⟩ | ⟨hjl, hnj, hbj⟩ | ⟨hje, hr'⟩
      · rw [fpOf_res hr'] at hxj; simp [Res.none] at hxj
      · rw [hL j bj hjl] at hxj
        exact hI.apart i j bi bj hbi hbj hij x hx hxj
      · rw [fpOf_res hr'] at hxj
        obtain ⟨k, b, hk, hbk, hxk⟩ := hfp x hxj
        exact hI.apart i k bi b hbi hbk (fun e => hni (e ▸ hk)) x hx hxk
    · rw [fpOf_res hr] at hx
      obtain ⟨k, b, hk, hbk, hxk⟩ := hfp x hx
      rcases hcase j bj hj with ⟨_, hr'⟩ | ⟨hjl, hnj, hbj⟩ | ⟨hje, hr'⟩
      · rw [fpOf_res hr'] at hxj; simp [Res.none] at hxj
      · rw [hL j bj hjl] at hxj
        exact hI.apart k j b bj hbk hbj (fun e => hnj (e ▸ hk)) x hxk hxj
      · omega
  · intro i b hb hrw x hx
    rcases hcase i b hb with ⟨_, hr⟩ | ⟨hil, _, hb⟩ | ⟨_, hr⟩
    · rw [fpOf_res hr] at hx; simp [Res.none] at hx
    · rw [hL i b hil] at hx
      exact hI.own i b hb hrw x hx
    · rw [fpOf_res hr] at hx
      exact h2 x hx
/-- The part j, opened behind all others. -/
theorem Inv.spill (hI : Inv c w ids mem) (j : Nat) {b0 : SBlk} {ids2 : List Nat} {mem2 : Mem} (hb0 : nth mem j = some b0) (hr0 : resOf b0 = some (memRes ids2 mem2)) (hrw0 : b0.rw = true) (hden : ∀ i b, nth mem2 i = some b → resOf b = none → ∃ l, denL [] b.cells = some l) :
    Inv c w (ids ++ ids2) (setCells mem j [.res Res.none] ++ mem2) := by
  have hR := hI.res j hb0 hr0
  obtain ⟨r1, r2, r3⟩ := hR
  have hlen := hI.len
  have hL : ∀ i b, i < ids.length → fpOf (ids ++ ids2) i b = fpOf ids i b := fun i b hi => fpOf_ids (List.prefix_append _ _) hi
  have hRt : ∀ i b, ids.length ≤ i → fpOf (ids ++ ids2) i b = fpOf ids2 (i - ids.length) b := fun i b hi => by
    unfold fpOf
    rw [List.getElem?_append_right hi]
  have hcase : ∀ i b, nth (setCells mem j [.res Res.none] ++ mem2) i = some b → (i < ids.length ∧ resOf b = some Res.none) ∨ (i < ids.length ∧ i ≠ j ∧ nth mem i = some b) ∨ (ids.length ≤ i ∧ nth mem2 (i - ids.length) = some b) := fun i b hb => by
    rcases Nat.lt_or_ge i (setCells mem j [.res Res.none]).length with h | h
    · have hil : i < ids.length := by rw [setCells_len] at h; omega
      rw [nth_app_left h] at hb
      rcases nth_setCells_cases hb with ⟨rfl, h3⟩ | ⟨h3, h4⟩
      · left
        obtain ⟨t, cs, q⟩ := b
        simp at h3; subst h3; exact ⟨hil, rfl⟩
      · exact .inr (.inl ⟨hil, h3, h4⟩)
    · rw [nth_app_right h, setCells_len, ← hlen] at hb
      rw [setCells_len] at h
      exact .inr (.inr ⟨by omega, hb⟩)
  have hin : ∀ i b, nth mem2 i = some b → ∀ x ∈ fpOf ids2 i b, x ∈ fpOf ids j b0 := fun i b hb x hx => by
    rw [fpOf_res hr0]; exact fpsOf_mem r1 hb x hx
  refine ⟨hI.frm, by simp [setCells_len, hlen, r1], ?_, ?_, ?_⟩
  · intro i b hb
    rcases hcase i b hb with ⟨_, hr⟩ | ⟨hil, _, hb⟩ | ⟨hil, hb⟩
    · unfold Good; rw [hr]; exact ⟨trivial, fun x hx => absurd hx (by simp [Res.none])⟩
    · exact (hI.good i b hb).ids (List.prefix_append _ _) hil
    · have hg := r2 _ b hb
      cases hr : resOf b with
      | some ρ =>
        have := hg.res hr
        unfold Good; rw [hr]
        exact this
      | none =>
        obtain ⟨n, l, hn, hd, hB⟩ := hg.blk hr
        obtain ⟨l', hl'⟩ := hden _ b hb hr
        have e1 := denL_mono (List.nil_prefix (l := ids2)) _ _ hl'
        rw [hd] at e1; simp at e1; subst e1
        exact .mk (by rw [List.getElem?_append_right hil]; exact hn) (denL_mono List.nil_prefix _ _ hl') hB
  · intro i k bi bk hi hk hik x hx hxk
    rcases hcase i bi hi with ⟨_, hr⟩ | ⟨hil, hni, hi⟩ | ⟨hil, hi⟩
    · rw [fpOf_res hr] at hx; simp [Res.none] at hx
    · rw [hL i bi hil] at hx
      rcases hcase k bk hk with ⟨_, hr⟩ | ⟨hkl, hnk, hk⟩ | ⟨hkl, hk⟩
      · rw [fpOf_res hr] at hxk; simp [Res.none] at hxk
      · rw [hL k bk hkl] at hxk
        exact hI.apart i k bi bk hi hk hik x hx hxk
      · rw [hRt k bk hkl] at hxk
        exact hI.apart i j bi b0 hi hb0 hni x hx (hin _ _ hk x hxk)
    · rw [hRt i bi hil] at hx
      rcases hcase k bk hk with ⟨_, hr⟩ | ⟨hkl, hnk, hk⟩ | ⟨hkl, hk⟩
      · rw [fpOf_res hr] at hxk; simp [Res.none] at hxk
      · rw [hL k bk hkl] at hxk
        exact hI.apart k j bk b0 hk hb0 hnk x hxk (hin _ _ hi x hx)
      · rw [hRt k bk hkl] at hxk
        exact r3 _ _ bi bk hi hk (by omega) x hx hxk
  · intro i b hb hrw x hx
    rcases hcase i b hb with ⟨_, hr⟩ | ⟨hil, _, hb⟩ | ⟨hil, hb⟩
    · rw [fpOf_res hr] at hx; simp [Res.none] at hx
    · rw [hL i b hil] at hx
      exact hI.own i b hb hrw x hx
    · rw [hRt i b hil] at hx
      exact hI.own j b0 hb0 hrw0 x (hin _ _ hb x hx)
/-- Memory told otherwise ahead of a call; new names behind the old ones. -/
theorem n_callX {f : FuncId} {args : List SV} {dst : Option Nat} (ids2 : List Nat) (mem' : Mem) (hl : mem.length = ids.length) (hm : ∀ w, Inv c w ids mem → Inv c w (ids ++ ids2) mem') (h : satN c Q (.call f args dst ⟨fr, mem', todo⟩) (ids ++ ids2)) : satN c Q (.call f args dst ⟨fr, mem, todo⟩) ids :=
  satN_iff.2 fun ids' w vs hp hI hv => by
    obtain rfl := ext0 hp (by rw [hI.len, hl])
    refine (satN_iff.1 h _ w vs (List.prefix_refl _) (hm w hI) (denL_mono (List.prefix_append _ _) _ _ hv)).mono ?_
    rintro e w2 ⟨r, v, mem2, ids3, h1, h2, h3, h4, h5⟩
    exact ⟨r, v, mem2, ids3, h1, h2, (List.prefix_append _ _).trans h3, h4, h5⟩
end
end Go.Proofs.YtglafgpjgkphkaaGreatDoor
