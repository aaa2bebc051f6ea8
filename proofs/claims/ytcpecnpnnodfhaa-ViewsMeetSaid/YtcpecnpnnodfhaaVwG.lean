/- The document's views: Digest. -/
import Derived.Test.YtcpecnpnnodfhaaVwF
set_option maxRecDepth 100000
set_option linter.unusedSimpArgs false
set_option linter.unusedVariables false
set_option maxHeartbeats 8000000
namespace Go.Proofs.Ytcpecnpnnodfhaa
open Go.RowKit

theorem rDigest_ok {p : Nat} {o : Option Addr} {cap : Nat} {s : Rv} {w : World} (hR : (rvRes p o cap s).R w) (hl : s.All.length ≤ 100000) :
    Calls Try.prog 40 #[pV p] w fun e w' => ∃ y : Option Addr × Nat, e = .returned (.slice y.1 (rDigF s).length y.2) ∧ True ∧ FreshR w w' (vRow y.1 (rDigF s).length y.2 (vws (rDigF s))) := by
  obtain ⟨itt, hitt, hpt⟩ := Option.map_eq_some_iff.1 infoVw
  simp only [Prod.mk.injEq] at hpt
  have hI : Inv (cx 32 [] [] w) w [p, 0] (ro (rvMem o cap s)) := memRes_read hR
  have hnl := namesF_len s.All s.me
  have hdl : (rDigF s).length = (namesF s.All s.me).length := by simp [rDigF]
  refine calls_sm (cx 32 [] [] w) (vals := [.ptr 0 0]) mixed Try.func40 rfl rfl rfl hI rfl (st rfl ?_); conv => arg 3; whnf
  refine gw ?_
  refine n_callN (fun y : Option Addr × Nat => rowRes 9 1 y.1 (namesF s.All s.me).length y.2 (strs (namesF s.All s.me))) 9 (fun y => .raw (.slice y.1 (namesF s.All s.me).length y.2)) (fun y => .slice y.1 (namesF s.All s.me).length y.2) (fun y => 0 < (namesF s.All s.me).length → ∃ g, y.1 = some ⟨g, 0, none⟩) rfl rfl rfl (fun _ => rfl) (fun w1 hI1 => (names_ok (rv_at hI1 0 rfl rfl rfl) (by omega) s.me).mono fun e w' ⟨y, he, _, hf⟩ => ⟨y, he, fun h => rowRes_some' hf.2.1 h, hf⟩) ?_
  rintro ⟨on, cn⟩ hon _
  dsimp only
  (refine gs ?_)
  refine gw ?_
  refine n_loopX [0] (ro (rvMem o cap s) ++ [⟨9, [.res (rowRes 9 1 on (namesF s.All s.me).length cn (strs (namesF s.All s.me)))], true⟩, ⟨49, [.res (vRow (((0, (none, 0)) : Nat × (Option Addr × Nat))).2.1 (((0, (none, 0)) : Nat × (Option Addr × Nat))).1 (((0, (none, 0)) : Nat × (Option Addr × Nat))).2.2 (vws ((rDigF s).take (((0, (none, 0)) : Nat × (Option Addr × Nat))).1)))], true⟩]) rfl (fun w1 hI1 => ?_) ?_
  · exact hI1.addR (Frm.refl [] w1) (vRow none 0 0 []) 49 true (rowRes_nil _ _ _) (by simp [rowRes]) (by simp [rowRes])
  refine n_loop (σ := Nat × (Option Addr × Nat)) (fun t => [(0, .ptr 0 0), (3, .raw (.slice t.2.1 t.1 t.2.2)), (4, .raw (.slice on (namesF s.All s.me).length cn)), (5, .int .i64 (t.1 : Nat))]) (fun t => (ro (rvMem o cap s) ++ [⟨9, [.res (rowRes 9 1 on (namesF s.All s.me).length cn (strs (namesF s.All s.me)))], true⟩, ⟨49, [.res (vRow (t).2.1 (t).1 (t).2.2 (vws ((rDigF s).take (t).1)))], true⟩])) (fun t => t.1 ≤ (rDigF s).length) (fun t => (rDigF s).length - t.1) (0, (none, 0)) mixed (by dsimp only; omega) (fun _ _ => rfl) rfl (by (repeat (first | exact trivial | refine ⟨⟨rfl, rfl⟩, ?_⟩))) (fun s _ => ⟨by (repeat (first | exact trivial | refine ⟨⟨_, rfl⟩, ?_⟩)), by (repeat (first | exact trivial | refine ⟨⟨_, rfl⟩, ?_⟩))⟩) fun t ht => ?_
  obtain ⟨i, ⟨oo, cc⟩⟩ := t
  dsimp only at ht ⊢
  (refine gs ?_)
  by_cases hil : i < (rDigF s).length
  · have ei : IntKind.i64.wrap ((i : Int) + 1) = ((i + 1 : Nat) : Int) := by rw [w64 (by omega) (by omega)]; simp
    have hi2 : i < (namesF s.All s.me).length := by omega
    have hx : (namesF s.All s.me)[i]? = some (namesF s.All s.me)[i] := List.getElem?_eq_getElem _
    have ht1 : (rDigF s).take (i + 1) = (rDigF s).take i ++ [lastF s.All s.me (namesF s.All s.me)[i]] := by
      rw [List.take_add_one]
      congr 1
      unfold rDigF
      rw [List.getElem?_map, hx]; rfl
    generalize (namesF s.All s.me)[i] = nm at hx ht1
    obtain ⟨gn, rfl⟩ := hon (by omega)
    (repeat ((first | refine n_must rfl ?_ | refine n_chk (drawF_ok (by decide +kernel)) ?_ | refine n_same rfl ?_ | ((first | refine n_must ?_ ?_ | refine n_brT ?_ ?_); (focus (first | (simp [hi2]; done) | (simp [hi2]; omega) | (simp only [hi2]; simp; done)))) | (refine n_brF ?_ ?_; (focus (first | (simp [hi2]; done) | (simp [hi2]; omega) | (simp only [hi2]; simp; done)))) | refine n_must (by (with_reducible refine and_shape ?_) <;> kernel_rfl) ?_); (refine gs ?_)))
    (refine n_ldA (.str nm) rfl (by first | exact trivial | rfl) rfl (fun _ w1 _ hI1 => load_cell aggStr (by have h := rowRes_cell (hI1.res 2 rfl rfl) (j := i) (u := .string nm) (by rw [strs, List.getElem?_map, hx]; rfl); rw [show (i : Int).toNat * 1 = i by simp]; exact h)) ?_; (refine gs ?_))
    refine gw ?_
    refine n_sameP (.agg (lastF s.All s.me nm).sv) rfl rfl rfl (fun _ w1 hp1 hI1 => last_ok (rv_at hI1 0 rfl rfl (pre_at hp1 rfl)) (by omega) s.me nm) ?_; (refine gs ?_)
    refine gw ?_
    generalize lastF s.All s.me nm = x at ht1
    refine n_build1 rfl rfl elemVw rfl rfl rfl rfl rfl rfl rfl rfl rfl ?_
    (refine gs ?_)
    refine gw ?_
    refine n_append (nv := x.l) 3 rfl rfl elemVw hitt hpt.1 hpt.2.1 hpt.2.2 rfl (by omega) rfl rfl rfl rfl rfl rfl (by omega) (by simp [Value.oneCell']) (by omega) (by omega) (show vws ((rDigF s).take i) ++ x.l = vws ((rDigF s).take (i + 1)) by rw [ht1]; exact vws_add _ _) fun g c => ?_
    (refine gs ?_)
    refine gw ?_
    exact n_again ⟨(i + 1, (some ⟨g, 0, none⟩, c)), by dsimp only; omega, by dsimp only; omega, (by (repeat (first | exact trivial | refine ⟨⟨rfl, rfl⟩, ?_⟩ | refine ⟨⟨rfl, congrArg (SV.int .i64) ei⟩, ?_⟩))), ⟨_, rfl⟩⟩
  · obtain rfl : i = (rDigF s).length := by omega
    rw [List.take_length]
    have hil2 : ¬ (rDigF s).length < (namesF s.All s.me).length := by omega
    (repeat ((first | refine n_must rfl ?_ | refine n_chk (drawF_ok (by decide +kernel)) ?_ | refine n_same rfl ?_ | ((first | refine n_must ?_ ?_ | refine n_brT ?_ ?_); (focus (first | (simp [hil2]; done) | (simp [hil2]; omega) | (simp only [hil2]; simp; done)))) | (refine n_brF ?_ ?_; (focus (first | (simp [hil2]; done) | (simp [hil2]; omega) | (simp only [hil2]; simp; done)))) | refine n_must (by (with_reducible refine and_shape ?_) <;> kernel_rfl) ?_); (refine gs ?_)))
    refine n_exit rfl ?_
    (refine gs ?_)
    refine gw ?_
    refine n_ret0 rfl rfl fun ids' w' hp hI' => ⟨(oo, cc), rfl, trivial, ?_⟩
    obtain ⟨f1, f2, f3, f4⟩ := post_res (ρ := Res.none) (ρ' := vRow oo (rDigF s).length cc (vws (rDigF s))) hI' rfl 3 rfl rfl rfl
    exact ⟨f1, f2, fun x hx => (f3 x hx).resolve_left (by simp [Res.none]), f4⟩
end Go.Proofs.Ytcpecnpnnodfhaa
