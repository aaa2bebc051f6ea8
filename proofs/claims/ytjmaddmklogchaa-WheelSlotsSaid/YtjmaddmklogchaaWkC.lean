/- Chapter 5's law: whole, lately. -/
import Derived.Test.YtjmaddmklogchaaWkB
set_option maxRecDepth 100000
set_option linter.unusedSimpArgs false
set_option linter.unusedVariables false
set_option maxHeartbeats 8000000
namespace Go.Proofs.Ytjmaddmklogchaa
open Go.RowKit

theorem marks_at (m : Int) (n : Nat) {j q : Nat} (hj : j < n) (hq : q < 4) {u : Value} (hu : (mkT m).l[q]? = some u) : (marks m n)[j * 4 + q]? = some u := by
  have h := flat_at (f := Tm.l) tm_len (L := List.replicate n (mkT m)) (i := j) (x := mkT m) (by simp [hj]) hq
  exact h.trans hu
theorem rds_at {G : List (Option Addr × List Value)} {w : World} (h : (rdsRes G).R w) {y : Option Addr × List Value} (hy : y ∈ G) {m : Int} {n j : Nat} {a : Addr} (ha : y.1 = some a) (hp : marks m n <+: y.2) (hj : j < n) {ad : Addr} (had : ad = a.add (j * 4)) : (loadVar 54 ad).run Try.prog w = .ok (mkT m).val w :=
  load_row (l := (mkT m).l) aggTm sizeTm fun q u hu => by
    have hq : q < 4 := by have := (List.getElem?_eq_some_iff.1 hu).1; simpa using this
    obtain ⟨z, hz⟩ := hp
    obtain ⟨a', e, hc⟩ := h y hy (j * 4 + q) u (by rw [← hz, List.getElem?_append_left (by rw [marks_len]; omega)]; exact marks_at m n hj hq hu)
    rw [ha] at e; simp at e; subst e
    rw [had, add_add]; exact hc
theorem kwhole_ok {p : Nat} {K : Kp} {w : World} (hK : K.ok) (hKl : K.Ls.length ≤ 1099511627776) (hR : (kpRes p K).R w) :
    Calls Try.prog 22 #[pV p] w fun e w' => e = .returned (.bool true) ∧ Frm [] w w' := by
  obtain ⟨lo, lc, Ls, mo, mc, Ms, G⟩ := K
  obtain ⟨hlen, hat, hmb, hxb⟩ := hK
  dsimp only at hlen hat hmb hxb hKl
  have hI : Inv (cx 51 [] [] w) w [p, 0, 0, 0] (ro (kpMem ⟨lo, lc, Ls, mo, mc, Ms, G⟩)) := memRes_read hR
  refine calls_sm (cx 51 [] [] w) (vals := [.ptr 0 0]) mixed Try.func22 rfl rfl rfl hI rfl (st rfl ?_); conv => arg 3; whnf
  refine gw ?_
  refine n_loop (σ := Nat) (fun i => [(0, .ptr 0 0), (3, .int .i64 (i : Nat))]) (fun _ => ro (kpMem ⟨lo, lc, Ls, mo, mc, Ms, G⟩)) (fun i => i ≤ Ls.length) (fun i => Ls.length - i) 0 mixed (by omega) (fun _ _ => rfl) rfl (by (repeat (first | exact trivial | refine ⟨⟨rfl, rfl⟩, ?_⟩))) (fun s _ => ⟨by (repeat (first | exact trivial | refine ⟨⟨_, rfl⟩, ?_⟩)), by (repeat (first | exact trivial | refine ⟨⟨_, rfl⟩, ?_⟩))⟩) fun i hi => ?_
  (refine gs ?_)
  by_cases hil : i < Ls.length
  · have ei : IntKind.i64.wrap ((i : Int) + 1) = ((i + 1 : Nat) : Int) := by rw [w64 (by omega) (by omega)]; simp
    have hx : Ls[i]? = some Ls[i] := List.getElem?_eq_getElem _
    have hmx : Ms[i]? = some Ms[i] := List.getElem?_eq_getElem _
    obtain ⟨y, hy, hye, hyp⟩ := hat i _ _ hx hmx
    have hxb := hxb _ (List.getElem_mem hil)
    have hmb := hmb _ (List.getElem_mem (show i < Ms.length by omega))
    generalize Ls[i] = x at hx hye hyp hxb
    generalize Ms[i] = m at hmx hyp hmb
    obtain ⟨xo, xn, xc⟩ := x
    dsimp only at hye hyp hxb
    obtain ⟨gl, rfl⟩ := rowRes_some' (memRes_res hR 1 rfl rfl) (by dsimp only; omega)
    obtain ⟨gm, rfl⟩ := rowRes_some' (memRes_res hR 2 rfl rfl) (by dsimp only; omega)
    have hcl : ∀ {w1}, (lsRow (some ⟨gl, 0, none⟩) lc Ls).R w1 → w1.cell? ((⟨gl, 0, none⟩ : Addr).add (i * 1)) = some (.slice xo xn xc) := fun h => rowRes_cell h (by rw [Nat.mul_one, List.getElem?_map, hx]; rfl)
    have hcm : ∀ {w1}, (msRow (some ⟨gm, 0, none⟩) mc Ms).R w1 → w1.cell? ((⟨gm, 0, none⟩ : Addr).add (i * 1)) = some (.int .i64 m) := fun h => rowRes_cell h (by rw [Nat.mul_one, List.getElem?_map, hmx]; rfl)
    (repeat ((first | refine n_must rfl ?_ | refine n_chk (drawF_ok (by decide +kernel)) ?_ | refine n_same rfl ?_ | ((first | refine n_must ?_ ?_ | refine n_brT ?_ ?_); (focus (first | (simp [hil]; done) | (simp [hil]; omega) | (simp only [hil]; simp; done)))) | (refine n_brF ?_ ?_; (focus (first | (simp [hil]; done) | (simp [hil]; omega) | (simp only [hil]; simp; done)))) | refine n_must (by (with_reducible refine and_shape ?_) <;> kernel_rfl) ?_); (refine gs ?_)))
    refine n_loop (σ := Nat) (fun j => [(0, .ptr 0 0), (3, .int .i64 (i : Nat)), (4, .int .i64 (j : Nat))]) (fun _ => ro (kpMem ⟨some ⟨gl, 0, none⟩, lc, Ls, some ⟨gm, 0, none⟩, mc, Ms, G⟩)) (fun j => j ≤ xn) (fun j => xn - j) 0 mixed (by omega) (fun _ _ => rfl) rfl (by (repeat (first | exact trivial | refine ⟨⟨rfl, rfl⟩, ?_⟩))) (fun s _ => ⟨by (repeat (first | exact trivial | refine ⟨⟨_, rfl⟩, ?_⟩)), by (repeat (first | exact trivial | refine ⟨⟨_, rfl⟩, ?_⟩))⟩) fun j hj => ?_
    (refine gs ?_)
    (repeat ((first | refine n_must rfl ?_ | refine n_chk (drawF_ok (by decide +kernel)) ?_ | refine n_same rfl ?_ | ((first | refine n_must ?_ ?_ | refine n_brT ?_ ?_); (focus (first | (simp [hil]; done) | (simp [hil]; omega) | (simp only [hil]; simp; done)))) | (refine n_brF ?_ ?_; (focus (first | (simp [hil]; done) | (simp [hil]; omega) | (simp only [hil]; simp; done)))) | refine n_must (by (with_reducible refine and_shape ?_) <;> kernel_rfl) ?_); (refine gs ?_)))
    refine n_ldI (.raw (.slice xo xn xc)) rfl rfl (fun _ w1 _ hI1 => load_cell aggTms (hcl (hI1.res 1 rfl rfl))) ?_
    (refine gs ?_)
    by_cases hjl : j < xn
    · have ej : IntKind.i64.wrap ((j : Int) + 1) = ((j + 1 : Nat) : Int) := by rw [w64 (by omega) (by omega)]; simp
      have hys : ∃ a, xo = some a := by
        obtain ⟨z, hz⟩ := hyp
        obtain ⟨a, ha, _⟩ := memRes_res hR 3 rfl rfl y hy (j * 4 + 0) (.int .i64 (-9)) (by rw [← hz, List.getElem?_append_left (by rw [marks_len]; omega)]; exact marks_at m xn hjl (by omega) rfl)
        exact ⟨a, hye ▸ ha⟩
      obtain ⟨a, rfl⟩ := hys
      (repeat ((first | refine n_must rfl ?_ | refine n_chk (drawF_ok (by decide +kernel)) ?_ | refine n_same rfl ?_ | ((first | refine n_must ?_ ?_ | refine n_brT ?_ ?_); (focus (first | (simp [hjl, hil]; done) | (simp [hjl, hil]; omega) | (simp only [hjl, hil]; simp; done)))) | (refine n_brF ?_ ?_; (focus (first | (simp [hjl, hil]; done) | (simp [hjl, hil]; omega) | (simp only [hjl, hil]; simp; done)))) | refine n_must (by (with_reducible refine and_shape ?_) <;> kernel_rfl) ?_); (refine gs ?_)))
      (refine n_ldA (.raw (.slice (some a) xn xc)) rfl (by first | exact trivial | rfl) rfl (fun _ w1 _ hI1 => load_cell aggTms (hcl (hI1.res 1 rfl rfl))) ?_; (refine gs ?_))
      (repeat ((first | refine n_must rfl ?_ | refine n_chk (drawF_ok (by decide +kernel)) ?_ | refine n_same rfl ?_ | ((first | refine n_must ?_ ?_ | refine n_brT ?_ ?_); (focus (first | (simp [hjl, hil]; done) | (simp [hjl, hil]; omega) | (simp only [hjl, hil]; simp; done)))) | (refine n_brF ?_ ?_; (focus (first | (simp [hjl, hil]; done) | (simp [hjl, hil]; omega) | (simp only [hjl, hil]; simp; done)))) | refine n_must (by (with_reducible refine and_shape ?_) <;> kernel_rfl) ?_); (refine gs ?_)))
      (refine n_ldA (.agg (mkT m).sv) rfl (by first | exact trivial | rfl) rfl (fun _ w1 _ hI1 => rds_at (hI1.res 3 rfl rfl) hy hye hyp hjl rfl) ?_; (refine gs ?_))
      have him : i < Ms.length := by omega
      (repeat ((first | refine n_must rfl ?_ | refine n_chk (drawF_ok (by decide +kernel)) ?_ | refine n_same rfl ?_ | ((first | refine n_must ?_ ?_ | refine n_brT ?_ ?_); (focus (first | (simp [him]; done) | (simp [him]; omega) | (simp only [him]; simp; done)))) | (refine n_brF ?_ ?_; (focus (first | (simp [him]; done) | (simp [him]; omega) | (simp only [him]; simp; done)))) | refine n_must (by (with_reducible refine and_shape ?_) <;> kernel_rfl) ?_); (refine gs ?_)))
      (refine n_ldA (.int .i64 m) rfl (by first | exact trivial | rfl) rfl (fun _ w1 _ hI1 => load_cell aggInt (hcm (hI1.res 2 rfl rfl))) ?_; (refine gs ?_))
      refine gw ?_
      exact n_again ⟨j + 1, by omega, by omega, (by (repeat (first | exact trivial | refine ⟨⟨rfl, rfl⟩, ?_⟩ | refine ⟨⟨rfl, congrArg (SV.int .i64) ej⟩, ?_⟩))), ⟨_, rfl⟩⟩
    · obtain rfl : j = xn := by omega
      refine gw ?_
      refine n_exit rfl ?_
      (refine gs ?_)
      refine gw ?_
      exact n_again ⟨i + 1, by omega, by omega, (by (repeat (first | exact trivial | refine ⟨⟨rfl, rfl⟩, ?_⟩ | refine ⟨⟨rfl, congrArg (SV.int .i64) ei⟩, ?_⟩))), ⟨_, rfl⟩⟩
  · obtain rfl : i = Ls.length := by omega
    refine gw ?_
    refine n_exit rfl ?_
    (refine gs ?_)
    refine gw ?_
    exact n_ret0 rfl rfl fun ids' w' hp hI' => ⟨rfl, hI'.frm⟩
end Go.Proofs.Ytjmaddmklogchaa
