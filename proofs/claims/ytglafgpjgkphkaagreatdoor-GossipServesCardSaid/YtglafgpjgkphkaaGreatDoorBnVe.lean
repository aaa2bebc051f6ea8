/- A call on one part of a part; a block of it told anew. -/
import Derived.Test.YtglafgpjgkphkaaGreatDoorGath
set_option linter.unusedVariables false
set_option linter.unusedSimpArgs false
namespace Go.Proofs.YtglafgpjgkphkaaGreatDoor
open Go.RowKit

section
variable {ids : List Nat} {mem : Mem} {w w' : World}
theorem post_in {i : Nat} {b : SBlk} {ρ ρ' : Res} (P : Program) (hR : (memRes ids mem).R w) (hb : nth mem i = some b) (hr : resOf b = some ρ) (hrw : b.rw = true) (hP : Post ρ ρ' w w') : Post (memRes ids mem) (memRes ids (setCells mem i [.res ρ'])) w w' := by
  have hI : Inv { P := P, N := 0, os := [], S := fpsOf ids mem, w0 := w } w ids mem := memRes_open hR fun x hx => hx
  have hI' := hI.updR i hb hr hrw hP.1 hP.2.1 hP.2.2.1 hP.2.2.2
  have hR' : (memRes ids (setCells mem i [.res ρ'])).R w' := ⟨hI'.len, hI'.good, hI'.apart⟩
  refine ⟨hI'.frm, hR', fun x hx => ?_, memRes_lt hR'⟩
  obtain ⟨k, b', hk, hy⟩ := fpsOf_inv hI'.len hx
  rcases nth_setCells_cases hk with ⟨rfl, hc⟩ | ⟨hne, hk'⟩
  · have hr' : resOf b' = some ρ' := by
      have h := nth_setCells (cs := [.res ρ']) hb
      rw [h] at hk
      cases hk; rfl
    rw [fpOf_res hr'] at hy
    rcases hP.2.2.1 x hy with h | h
    · exact .inl (fpsOf_mem hR.1 hb x (by rw [fpOf_res hr]; exact h))
    · exact .inr h
  · exact .inl (fpsOf_mem hR.1 hk' x hy)
theorem post_blk {i n : Nat} {b : SBlk} {cs : List SV} {l : List Value} (P : Program) (hR : (memRes ids mem).R w) (hb : nth mem i = some b) (hn : ids[i]? = some n) (hrw : wrB b = true) (hd : denL ids cs = some l) (hf : Frm [n] w w') (hw : Blk w' n l.toArray b.ty) :
    Post (memRes ids mem) (memRes ids (setCells mem i cs)) w w' := by
  have hI : Inv { P := P, N := 0, os := [], S := fpsOf ids mem, w0 := w } w ids mem := memRes_open hR fun x hx => hx
  have hI' := hI.upd i hb hn hrw hd hf hw
  rw [← setCells_eq hb] at hI'
  have hR' : (memRes ids (setCells mem i cs)).R w' := ⟨hI'.len, hI'.good, hI'.apart⟩
  obtain ⟨_, hr⟩ := wrB_eq hrw
  refine ⟨hI'.frm, hR', fun x hx => ?_, memRes_lt hR'⟩
  obtain ⟨k, b', hk, hy⟩ := fpsOf_inv hI'.len hx
  rcases nth_setCells_cases hk with ⟨rfl, hc⟩ | ⟨hne, hk'⟩
  · have hr' : resOf b' = none := by
      have h := nth_setCells (cs := cs) hb
      rw [h] at hk
      cases hk
      exact resOf_cells hd
    rw [fpOf_cells hr' hn] at hy
    exact .inl (fpsOf_mem hR.1 hb x (by rw [fpOf_cells hr hn]; exact hy))
  · exact .inl (fpsOf_mem hR.1 hk' x hy)
end
end Go.Proofs.YtglafgpjgkphkaaGreatDoor
