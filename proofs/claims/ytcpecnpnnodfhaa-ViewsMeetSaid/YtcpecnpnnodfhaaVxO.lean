/- Chapter 9's law: a script as an argument. -/
import Derived.Test.YtcpecnpnnodfhaaVxH
import Derived.Test.YtcpecnpnnodfhaaOkw
set_option maxRecDepth 100000
set_option linter.unusedVariables false
namespace Go.Proofs.Ytcpecnpnnodfhaa
open Go.ChangeShapes Go.WideShapes Go.ChangeAt Go.RowKit

theorem own : ownKnob Try.prog.godebug = none := by kernel_rfl
theorem cellsOq : Try.prog.cellsOf 74 = 9 := by kernel_rfl
theorem cellsIn : Try.prog.cellsOf 3 = 1 := by kernel_rfl
theorem cellsStr : Try.prog.cellsOf 9 = 1 := by kernel_rfl
theorem cellsRt : Try.prog.cellsOf 47 = 2 := by kernel_rfl
theorem cellsVws : Try.prog.cellsOf 34 = 1 := by kernel_rfl
theorem cellsVw : Try.prog.cellsOf 49 = 7 := by kernel_rfl
theorem bytesVw : Try.prog.bytesOf 49 = 64 := by kernel_rfl
theorem bytesOq : Try.prog.bytesOf 74 = 96 := by kernel_rfl
section
variable {H : Type} {enc : TypeId × Value → H} {w : World} {base : Nat} {spare : Nat → Bool} {held : Bool} {v : Value} {d : DataW H} {p : List MemPlace}
theorem vw_el {n : Nat} {cs : List Value} {x : DataW H × List MemPlace} (h : DataW.trod enc Try.prog w 0 spare held n 49 cs = some x) : ∃ p : Vw, cs = p.l := by
  have hfit := leaves_fits (ls := [.str, .int .i64, .int .i64, .int .i64, .int .i64, .int .i64, .int .i64]) 5 (by kernel_rfl) h
  obtain ⟨v0, r0, rfl, ⟨x0, rfl, w0⟩, h0⟩ := hfit.inv
  obtain ⟨v1, r1, rfl, ⟨x1, rfl, w1⟩, h1⟩ := h0.inv
  obtain ⟨v2, r2, rfl, ⟨x2, rfl, w2⟩, h2⟩ := h1.inv
  obtain ⟨v3, r3, rfl, ⟨x3, rfl, w3⟩, h3⟩ := h2.inv
  obtain ⟨v4, r4, rfl, ⟨x4, rfl, w4⟩, h4⟩ := h3.inv
  obtain ⟨v5, r5, rfl, ⟨x5, rfl, w5⟩, h5⟩ := h4.inv
  obtain ⟨v6, r6, rfl, ⟨x6, rfl, w6⟩, h6⟩ := h5.inv
  obtain rfl := h6.inv0
  exact ⟨⟨x0, x1, x2, x3, x4, x5, x6⟩, rfl⟩
theorem reach_vw (es sp : List (DataW H)) (h : Okw Try.prog 34 (.slice es sp)) : es.length ≤ 2199023255488 ∧ ∀ d ∈ es, Okw Try.prog 49 d := by
  obtain ⟨h1, h2⟩ := okw_slice Try.underlying34 es sp h
  rw [bytesVw] at h1
  have hre : reachBytes = 140737488351232 := rfl
  exact ⟨by omega, h2⟩
theorem one_int {n : Nat} {u : Value} {y : Option (DataW H × List MemPlace)} {z : DataW H × List MemPlace} (hy : y = some z) (h : DataW.trod enc Try.prog w 0 spare held n 3 [u] = y) : ∃ x : Int, u = .int .i64 x ∧ i64 x := by
  rw [hy] at h
  have hfit := leaves_fits (ls := [.int .i64]) 5 (by kernel_rfl) h
  obtain ⟨v0, r0, e, ⟨x0, rfl, w0⟩, h0⟩ := hfit.inv
  simp only [List.cons.injEq] at e
  exact ⟨x0, e.1, wf_i64 w0⟩
theorem oq_el {n : Nat} {cs : List Value} {x : DataW H × List MemPlace} (hok : Okw Try.prog 74 x.1) (h : DataW.trod enc Try.prog w 0 spare held n 74 cs = some x) : ∃ c : Oq, cs = c.l ∧ (c.good ∧ (readRes c.vo (vws c.V)).R w) := by
  obtain ⟨xs, n', rfl, rfl, hlen, hxl, hf⟩ := DataW.trod_struct Try.underlying74 h
  rw [cellsOq] at hlen
  obtain ⟨u0, u1, u2, u3, u4, u5, u6, u7, u8, rfl⟩ := list9 hlen
  have g : ∀ i, i < 8 → ∃ y, xs[i]? = some y := fun i hi => ⟨xs[i]'(by rw [hxl]; exact hi), List.getElem?_eq_getElem _⟩
  have f0 : DataW.trod enc Try.prog w 0 spare held n' 3 (([u0, u1, u2, u3, u4, u5, u6, u7, u8].drop 0).take (Try.prog.cellsOf 3)) = xs[0]? := hf 0 _ rfl
  rw [cellsIn] at f0
  simp only [List.drop_zero, List.drop_succ_cons, List.take_succ_cons, List.take_zero] at f0
  have f1 : DataW.trod enc Try.prog w 0 spare held n' 3 (([u0, u1, u2, u3, u4, u5, u6, u7, u8].drop 1).take (Try.prog.cellsOf 3)) = xs[1]? := hf 1 _ rfl
  rw [cellsIn] at f1
  simp only [List.drop_zero, List.drop_succ_cons, List.take_succ_cons, List.take_zero] at f1
  have f2 : DataW.trod enc Try.prog w 0 spare held n' 3 (([u0, u1, u2, u3, u4, u5, u6, u7, u8].drop 2).take (Try.prog.cellsOf 3)) = xs[2]? := hf 2 _ rfl
  rw [cellsIn] at f2
  simp only [List.drop_zero, List.drop_succ_cons, List.take_succ_cons, List.take_zero] at f2
  have f3 : DataW.trod enc Try.prog w 0 spare held n' 3 (([u0, u1, u2, u3, u4, u5, u6, u7, u8].drop 3).take (Try.prog.cellsOf 3)) = xs[3]? := hf 3 _ rfl
  rw [cellsIn] at f3
  simp only [List.drop_zero, List.drop_succ_cons, List.take_succ_cons, List.take_zero] at f3
  have f4 : DataW.trod enc Try.prog w 0 spare held n' 3 (([u0, u1, u2, u3, u4, u5, u6, u7, u8].drop 4).take (Try.prog.cellsOf 3)) = xs[4]? := hf 4 _ rfl
  rw [cellsIn] at f4
  simp only [List.drop_zero, List.drop_succ_cons, List.take_succ_cons, List.take_zero] at f4
  have f5 : DataW.trod enc Try.prog w 0 spare held n' 9 (([u0, u1, u2, u3, u4, u5, u6, u7, u8].drop 5).take (Try.prog.cellsOf 9)) = xs[5]? := hf 5 _ rfl
  rw [cellsStr] at f5
  simp only [List.drop_zero, List.drop_succ_cons, List.take_succ_cons, List.take_zero] at f5
  have f6 : DataW.trod enc Try.prog w 0 spare held n' 47 (([u0, u1, u2, u3, u4, u5, u6, u7, u8].drop 6).take (Try.prog.cellsOf 47)) = xs[6]? := hf 6 _ rfl
  rw [cellsRt] at f6
  simp only [List.drop_zero, List.drop_succ_cons, List.take_succ_cons, List.take_zero] at f6
  have f7 : DataW.trod enc Try.prog w 0 spare held n' 34 (([u0, u1, u2, u3, u4, u5, u6, u7, u8].drop 8).take (Try.prog.cellsOf 34)) = xs[7]? := hf 7 _ rfl
  rw [cellsVws] at f7
  simp only [List.drop_zero, List.drop_succ_cons, List.take_succ_cons, List.take_zero] at f7
  obtain ⟨y0, g0⟩ := g 0 (by omega)
  obtain ⟨y1, g1⟩ := g 1 (by omega)
  obtain ⟨y2, g2⟩ := g 2 (by omega)
  obtain ⟨y3, g3⟩ := g 3 (by omega)
  obtain ⟨y4, g4⟩ := g 4 (by omega)
  obtain ⟨y5, g5⟩ := g 5 (by omega)
  obtain ⟨y6, g6⟩ := g 6 (by omega)
  obtain ⟨y7, g7⟩ := g 7 (by omega)
  obtain ⟨x0, rfl, _⟩ := one_int g0 f0
  obtain ⟨x1, rfl, _⟩ := one_int g1 f1
  obtain ⟨x2, rfl, w2⟩ := one_int g2 f2
  obtain ⟨x3, rfl, _⟩ := one_int g3 f3
  obtain ⟨x4, rfl, _⟩ := one_int g4 f4
  rw [g5] at f5
  rw [g6] at f6
  rw [g7] at f7
  obtain ⟨v5, r5, e5, ⟨x5, rfl, w5⟩, _⟩ := (leaves_fits (ls := [.str]) 5 (by kernel_rfl) f5).inv
  obtain ⟨v6, r6, e6, ⟨x6, rfl, _⟩, h6⟩ := (leaves_fits (ls := [.int .i64, .int .i64]) 5 (by kernel_rfl) f6).inv
  obtain ⟨v7, r7, e7, ⟨x7, rfl, _⟩, _⟩ := h6.inv
  subst e7
  simp only [List.cons.injEq] at e5 e6
  obtain ⟨rfl, _⟩ := e5
  obtain ⟨rfl, rfl, _⟩ := e6
  have hv : Okw Try.prog 34 y7.1 := okw_agg Try.underlying74 hok 7 rfl (by simp [g7])
  obtain ⟨vo, V, vc, e8, hR, _, _, hl⟩ := open_list (F := Vw.l) (size := 7) (B := 2199023255488) (ok := Okw Try.prog) (good := fun _ => True) vw_len (by omega) Try.underlying34 cellsVw reach_vw (fun n cs x _ h => by
    obtain ⟨p, hp⟩ := vw_el h
    exact ⟨p, hp, trivial⟩) f7 hv
  simp only [List.cons.injEq, and_true] at e8
  subst e8
  exact ⟨⟨x0, x1, x2, x3, x4, x5, x6, x7, vo, vc, V⟩, rfl, ⟨w2, w5, by dsimp only; omega⟩, hR⟩
theorem reach_oq (es sp : List (DataW H)) (h : Okw Try.prog 22 (.slice es sp)) : es.length ≤ 9223372036854775806 ∧ ∀ d ∈ es, Okw Try.prog 74 d := by
  obtain ⟨h1, h2⟩ := okw_slice Try.underlying22 es sp h
  rw [bytesOq] at h1
  have hre : reachBytes = 140737488351232 := rfl
  exact ⟨by omega, h2⟩
theorem open_ops (hv : Value.okWide Try.prog w .any base 22 v) (h : DataW.Trod enc Try.prog w 0 spare held 22 v d p) (hok : Okw Try.prog 22 d) :
    ∃ (o : Option Addr) (L : List Oq) (cap : Nat), v = .slice o L.length cap ∧ (oqRes o L).R w ∧ L.length ≤ 9223372036854775806 ∧ ∀ m ∈ L, m.good ∧ (readRes m.vo (vws m.V)).R w := by
  obtain ⟨o, L, cap, e, hR, hg, _, hl⟩ := open_list (F := Oq.l) (size := 9) (B := 9223372036854775806) (ok := Okw Try.prog) (good := fun m => m.good ∧ (readRes m.vo (vws m.V)).R w) oq_len (by omega) Try.underlying22 cellsOq reach_oq (fun n cs x hok h => oq_el hok h) h.choose_spec hok
  obtain ⟨a, len, cp, rfl⟩ := okWide_slice Try.underlying22 hv
  simp only [Value.cells, Array.toList, List.cons.injEq, and_true] at e
  rw [e]
  exact ⟨o, L, cap, rfl, hR, hl, hg⟩
end
end Go.Proofs.Ytcpecnpnnodfhaa
