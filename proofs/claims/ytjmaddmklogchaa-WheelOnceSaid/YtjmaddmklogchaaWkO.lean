/- Chapter 5's law: able, plays. -/
import Derived.Test.YtjmaddmklogchaaWkN
set_option maxRecDepth 100000
set_option linter.unusedSimpArgs false
set_option linter.unusedVariables false
set_option maxHeartbeats 8000000
namespace Go.Proofs.Ytjmaddmklogchaa
open Go.RowKit

theorem able_ok (w : World) : Calls Try.prog 10 #[] w fun e w' => e = .returned (.bool true) ∧ Frm [] w w' := by
  have hI := Inv.nil (P := Try.prog) (N := 37) (S := []) (os := []) w
  refine calls_sm (cx 37 [] [] w) (vals := []) mixed Try.func10 rfl rfl rfl hI rfl (st rfl ?_); conv => arg 3; whnf
  refine gw ?_
  refine n_callN (fun y : Nat × Nat => whRes y.1 (Wh.new 3 y.2)) 58 (fun y => .tup [.raw (pV y.1), .int .i64 0]) (fun y => .tuple #[pV y.1, .int .i64 0]) (fun _ => True) rfl rfl rfl (fun _ => rfl) (fun w1 hI1 => wNew_ok 3 w1 (by omega)) ?_
  rintro ⟨p, mb⟩ _ _
  dsimp only
  (refine gs ?_)
  refine gw ?_
  refine n_callR (Y := Wh) 0 (fun W' => whRes p W') (fun _ => .int .i64 1) (fun _ => .int .i64 1) (fun W' => W'.ok 1 ∧ W'.s = ⟨[⟨2, 1, 7, 8⟩], 0, 1⟩) rfl rfl (fun _ => rfl) rfl rfl rfl (fun _ w1 _ hI1 hR1 => (wArm_ok (W := Wh.new 3 mb) (N := 0) (d := 2) (k := 7) (i := 8) (new_ok (by omega)) (by omega) hR1).mono fun e w' ⟨W', he, ⟨h1, h2, _⟩, hp⟩ => ⟨W', he, ⟨h1, by rw [h2]; rfl⟩, hp⟩) ?_
  rintro W1 ⟨o1, o2⟩
  (refine gs ?_)
  refine gw ?_
  have d1 : W1.s.due = [] := by rw [o2]; rfl
  refine n_callR (Y := Wh × Option Addr × Nat) 0 (fun y => (whRes p y.1).both (tRow y.2.1 0 y.2.2 [])) (fun y => .raw (.slice y.2.1 0 y.2.2)) (fun y => .slice y.2.1 0 y.2.2) (fun y => y.1.ok 2 ∧ y.1.s = ⟨[⟨2, 1, 7, 8⟩], 1, 1⟩) rfl rfl (fun _ => rfl) rfl rfl rfl (fun _ w1 _ hI1 hR1 => (wTick_ok o1 (by omega) hR1).mono fun e w' ⟨y, he, ⟨h1, h2, _⟩, hp⟩ => ⟨y, by rw [he, d1]; rfl, ⟨h1, by rw [h2, o2]; rfl⟩, by rw [d1] at hp; exact hp⟩) ?_
  rintro ⟨W2, o, c⟩ ⟨o3, o4⟩
  dsimp only at o3 o4 ⊢
  (refine gs ?_)
  refine gw ?_
  refine n_callX [0] _ rfl (fun w1 hI1 => hI1.part2 0 rfl rfl 54) ?_
  have d2 : W2.s.due = [⟨2, 1, 7, 8⟩] := by rw [o4]; rfl
  refine n_callR (Y := Wh × Nat × Nat) 0 (fun y => (whRes p y.1).both (tRow (some ⟨y.2.1, 0, none⟩) 1 y.2.2 (tms [⟨2, 1, 7, 8⟩]))) (fun y => .raw (.slice (some ⟨y.2.1, 0, none⟩) 1 y.2.2)) (fun y => .slice (some ⟨y.2.1, 0, none⟩) 1 y.2.2) (fun y => True) rfl rfl (fun _ => rfl) rfl rfl rfl (fun _ w1 _ hI1 hR1 => (wTick_ok o3 (by omega) hR1).mono fun e w' ⟨⟨W3, o5, c5⟩, he, _, hp⟩ => by
    rw [d2] at hp he
    obtain ⟨g, rfl⟩ := rowRes_some' hp.2.1.2.1 (by simp)
    exact ⟨(W3, g, c5), he, trivial, hp⟩) ?_
  rintro ⟨W3, g, cc⟩ _
  dsimp only
  (refine gs ?_)
  refine gw ?_
  (refine n_ldA (.agg (⟨2, 1, 7, 8⟩ : Tm).sv) rfl (by first | exact trivial | rfl) rfl (fun _ w1 _ hI1 => tm_load (L := [⟨2, 1, 7, 8⟩]) (i := 0) (rd_of_row (hI1.res 0 rfl rfl).2.1) rfl rfl) ?_; (refine gs ?_))
  refine gw ?_
  exact n_ret0 rfl rfl fun ids' w' hp hI' => ⟨rfl, hI'.frm⟩
end Go.Proofs.Ytjmaddmklogchaa
