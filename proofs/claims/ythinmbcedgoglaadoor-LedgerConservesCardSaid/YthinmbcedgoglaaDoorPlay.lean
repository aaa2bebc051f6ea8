/- What keeps the ledger's numbers sound; one call of a script. -/
import Derived.Test.YthinmbcedgoglaaDoorRef
set_option maxRecDepth 100000
set_option linter.unusedSimpArgs false
set_option linter.unusedVariables false
namespace Go.Proofs.YthinmbcedgoglaaDoor
open Go.RowKit

/-! ### What keeps the numbers sound -/
theorem Led.ok.turn {s : Led} (ok : s.ok) (kind x : Int) : (s.turn (fromTo kind).1 (fromTo kind).2 x).1.ok := by
  obtain ⟨d, u, h, lim, n⟩ := s
  obtain ⟨d0, u0, h0, sum, one, cap⟩ := ok
  dsimp only at d0 u0 h0 sum one cap
  rcases fromTo_five kind with ⟨e1, e2⟩ | ⟨e1, e2⟩ | ⟨e1, e2⟩ | ⟨e1, e2⟩ | ⟨e1, e2⟩ <;> rw [e1, e2] <;> simp only [Led.turn, Led.get, Led.set] <;> by_cases hc : capB x = false
  all_goals first
    | (rw [if_pos hc]; exact ⟨d0, u0, h0, sum, one, cap⟩)
    | (rw [if_neg hc]
       have hx : 1 ≤ x := by simp [capB] at hc; omega
       split <;> constructor <;> dsimp only <;> omega)
theorem Led.ok.in_ {s : Led} (ok : s.ok) (x y : Int) : (s.in_ x y).1.ok := by
  obtain ⟨d, u, h, lim, n⟩ := s
  obtain ⟨d0, u0, h0, sum, one, cap⟩ := ok
  dsimp only at d0 u0 h0 sum one cap
  simp only [Led.in_]
  repeat' split
  all_goals constructor <;> dsimp only <;> omega
theorem Led.ok.out {s : Led} (ok : s.ok) (x y : Int) : (s.out x y).1.ok := by
  obtain ⟨d, u, h, lim, n⟩ := s
  obtain ⟨d0, u0, h0, sum, one, cap⟩ := ok
  dsimp only at d0 u0 h0 sum one cap
  simp only [Led.out]
  repeat' split
  all_goals constructor <;> dsimp only <;> omega
theorem Led.ok.all0 {s : Led} (ok : s.ok) : ({ s with d := 0, u := 0 } : Led).ok := by
  obtain ⟨d0, u0, h0, sum, one, cap⟩ := ok
  constructor <;> dsimp only <;> omega
theorem Led.ok.setD {s : Led} (ok : s.ok) (x : Int) : (s.setD x).1.ok := by
  obtain ⟨d, u, h, lim, n⟩ := s
  obtain ⟨d0, u0, h0, sum, one, cap⟩ := ok
  dsimp only at d0 u0 h0 sum one cap
  simp only [Led.setD]
  repeat' split
  all_goals constructor <;> dsimp only <;> omega
theorem Led.ok.recap {s : Led} (ok : s.ok) (x y : Int) : (s.recap x y).1.ok := by
  obtain ⟨d, u, h, lim, n⟩ := s
  obtain ⟨d0, u0, h0, sum, one, cap⟩ := ok
  dsimp only at d0 u0 h0 sum one cap
  simp only [Led.recap]
  by_cases hc : capB x = false
  · rw [if_pos hc]; exact ⟨d0, u0, h0, sum, one, cap⟩
  · rw [if_neg hc]
    simp [capB] at hc
    repeat' split
    all_goals constructor <;> dsimp only <;> omega
theorem Led.ok.hear {s : Led} (ok : s.ok) (x y : Int) : (s.hear x y).1.ok := by
  obtain ⟨d, u, h, lim, n⟩ := s
  obtain ⟨d0, u0, h0, sum, one, cap⟩ := ok
  dsimp only at d0 u0 h0 sum one cap
  simp only [Led.hear]
  by_cases hc : capB x = false
  · rw [if_pos hc]; exact ⟨d0, u0, h0, sum, one, cap⟩
  · rw [if_neg hc]
    simp [capB] at hc
    repeat' split
    all_goals constructor <;> dsimp only <;> omega

/-- One call of the script. -/
def Led.play (s : Led) (k a b : Int) : Led :=
  if k = 1 ∨ k = 2 ∨ k = 3 ∨ k = 4 ∨ k = 5 then (s.turn (fromTo k).1 (fromTo k).2 a).1 else if k = 6 then (s.in_ a b).1 else if k = 7 then (s.out a b).1 else if k = 8 then { s with d := 0, u := 0 } else
  if k = 9 then (s.setD a).1 else if k = 10 then (s.recap a b).1 else if k = 11 then (s.hear a b).1 else s
theorem Led.ok.play {s : Led} (ok : s.ok) (k a b : Int) : (s.play k a b).ok := by
  unfold Led.play
  repeat' split
  · exact ok.turn _ _
  · exact ok.in_ _ _
  · exact ok.out _ _
  · exact ok.all0
  · exact ok.setD _
  · exact ok.recap _ _
  · exact ok.hear _ _
  · exact ok

end Go.Proofs.YthinmbcedgoglaaDoor
