/- Parts gathered into one part that is read only. -/
import Derived.Test.YtfcbcgjgkleonaaGath
set_option linter.unusedVariables false
set_option linter.unusedSimpArgs false
namespace Go.Proofs.Ytfcbcgjgkleonaa
open Go.RowKit
section
variable {c : Ctx} {ids : List Nat} {w : World} {mem : Mem}
/-- The same, to be read only. -/
theorem Inv.gatherR (hI : Inv c w ids mem) (ix : List Nat) {ids0 : List Nat} {mem0 : Mem} (h : Sel false ids mem ix ids0 mem0) (hnd : ix.Nodup) (t : TypeId) : Inv c w (ids ++ [0]) (kill mem ix ++ [⟨t, [.res (memRes ids0 mem0)], false⟩]) := by
  have h1 := memRes_here hI ix h hnd
  have hlen := hI.len
  obtain ⟨e1, e2, hat⟩ := h.at_
  have hkl : (kill mem ix).length = mem.length := kill_len
  have hfp : ∀ x ∈ (memRes ids0 mem0).fp, ∃ i b, i ∈ ix ∧ nth mem i = some b ∧ x ∈ fpOf ids i b := by
    intro x hx
    obtain ⟨k, b, hb, hx⟩ := fpsOf_inv e1 hx
    obtain ⟨i, b', h1, h2, h3, h4⟩ := hat k b hb
    refine ⟨i, b', List.mem_of_getElem? h1, h2, ?_⟩
    rcases h4 with ⟨r, h4, h5⟩ | ⟨n, l, h4, h5, h6, h7, h8⟩
    · rw [fpOf_res h5]; rwa [fpOf_res h4] at hx
    · rw [fpOf_cells (resOf_cells h7) h5]; rwa [fpOf_cells (resOf_cells h6) h4] at hx
  have hL : ∀ i b, i < ids.length → fpOf (ids ++ [0]) i b = fpOf ids i b := fun i b hi => fpOf_ids (List.prefix_append _ _) hi
  have hcase : ∀ i b, nth (kill mem ix ++ [⟨t, [.res (memRes ids0 mem0)], false⟩]) i = some b → (i < ids.length ∧ resOf b = some Res.none) ∨ (i < ids.length ∧ i ∉ ix ∧ nth mem i = some b) ∨ (i = ids.length ∧ resOf b = some (memRes ids0 mem0) ∧ b.rw = false) := by
    intro i b hb
    rcases Nat.lt_or_ge i (kill mem ix).length with hi | hi
    · rw [nth_app_left hi] at hb
      rcases kill_at hb with h | ⟨h, h'⟩
      · exact .inl ⟨by omega, h⟩
      · exact .inr (.inl ⟨by omega, h, h'⟩)
    · rw [nth_app_right hi] at hb
      right; right
      have h0 : i - (kill mem ix).length = 0 := by
        have := nth_lt hb
        simp at this; omega
      rw [h0] at hb
      simp [nth] at hb
      subst hb
      exact ⟨by omega, rfl, rfl⟩
  refine ⟨hI.frm, by simp [hkl, hlen], ?_, ?_, ?_⟩
  · intro i b hb
    rcases hcase i b hb with ⟨_, hr⟩ | ⟨hi, _, hb⟩ | ⟨_, hr, _⟩
    · unfold Good; rw [hr]; exact ⟨trivial, fun x hx => absurd hx (by simp [Res.none])⟩
    · exact (hI.good i b hb).ids (List.prefix_append _ _) hi
    · unfold Good; rw [hr]; exact ⟨h1, memRes_lt h1⟩
  · intro i j bi bj hi hj hij x hx hxj
    rcases hcase i bi hi with ⟨_, hr⟩ | ⟨hil, hni, hbi⟩ | ⟨hie, hr, _⟩
    · rw [fpOf_res hr] at hx; simp [Res.none] at hx
    · rw [hL i bi hil] at hx
      rcases hcase j bj hj with ⟨_, hr'⟩ | ⟨hjl, hnj, hbj⟩ | ⟨hje, hr', _⟩
      · rw [fpOf_res hr'] at hxj; simp [Res.none] at hxj
      · rw [hL j bj hjl] at hxj
        exact hI.apart i j bi bj hbi hbj hij x hx hxj
      · rw [fpOf_res hr'] at hxj
        obtain ⟨k, b, hk, hbk, hxk⟩ := hfp x hxj
        exact hI.apart i k bi b hbi hbk (fun e => hni (e ▸ hk)) x hx hxk
    · rw [fpOf_res hr] at hx
      obtain ⟨k, b, hk, hbk, hxk⟩ := hfp x hx
      rcases hcase j bj hj with ⟨_, hr'⟩ | ⟨hjl, hnj, hbj⟩ | ⟨hje, hr', _⟩
      · rw [fpOf_res hr'] at hxj; simp [Res.none] at hxj
      · rw [hL j bj hjl] at hxj
        exact hI.apart k j b bj hbk hbj (fun e => hnj (e ▸ hk)) x hxk hxj
      · omega
  · intro i b hb hrw x hx
    rcases hcase i b hb with ⟨_, hr⟩ | ⟨hil, _, hb⟩ | ⟨_, hr, hf⟩
    · rw [fpOf_res hr] at hx; simp [Res.none] at hx
    · rw [hL i b hil] at hx
      exact hI.own i b hb hrw x hx
    · rw [hf] at hrw; cases hrw
end
end Go.Proofs.Ytfcbcgjgkleonaa
