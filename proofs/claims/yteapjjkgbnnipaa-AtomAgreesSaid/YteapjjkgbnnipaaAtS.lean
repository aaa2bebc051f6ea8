/- Package atom: Allows. -/
import Derived.Test.YteapjjkgbnnipaaAtR
import Derived.Test.YteapjjkgbnnipaaSt
set_option maxRecDepth 100000
set_option linter.unusedSimpArgs false
set_option linter.unusedVariables false
set_option maxHeartbeats 4000000
namespace Go.Proofs.Yteapjjkgbnnipaa
open Go.RowKit

/-- m.all = t.all. -/
theorem mapRes_moved {p mb p2 mb2 : Nat} {A A2 : All} {w w' : World} (hR : ((mapRes p mb A).both (mapRes p2 mb2 A2)).R w) (hf : Frm [p] w w') (hb : Blk w' p #[.map (some mb2)] 59) : (mapRes p mb2 A2).R w' := by
  obtain ⟨h1, h2, hap⟩ := hR
  have hlt := mapRes_lt h2
  obtain ⟨r1, r2, r3, r4⟩ := h2
  have hp : p ∉ (mapRes p2 mb2 A2).fp := hap p (by simp [mapRes])
  have hkeep : ∀ x ∈ (mapRes p2 mb2 A2).fp, w'.heap[x]? = w.heap[x]? := fun x hx => hf.block x (hlt x hx) (by simp; rintro rfl; exact hp hx)
  refine ⟨hb, r2.keep (hkeep mb2 (by simp [mapRes])), fun x hx => (r3 x hx).keep (hkeep _ (by simp only [mapRes, blocksOf, List.mem_cons, List.mem_map]; exact .inr (.inr ⟨x, hx, rfl⟩))), ?_⟩
  simp only [mapRes, List.mem_cons, not_or] at hp
  rw [List.nodup_cons] at r4 ⊢
  exact ⟨by simp only [List.mem_cons, not_or]; exact hp.2, r4.2⟩

abbrev effV (sp se id k : Int) (nm : ByteArray) (a b er va : Int) : Array Value := #[.int .i64 sp, .int .i64 se, .int .i64 id, .int .i64 k, .string nm, .int .i64 a, .int .i64 b, .int .i64 er, .int .i64 va]
abbrev effS (sp se id k : Int) (nm : ByteArray) (a b er va : Int) : List SV := [.int .i64 sp, .int .i64 se, .int .i64 id, .int .i64 k, .str nm, .int .i64 a, .int .i64 b, .int .i64 er, .int .i64 va]
def allowB (D : All × Int × Int) (er va : Int) : Bool := !(decide (D.2.2 = 1) || decide (D.2.2 ≠ er) || decide (D.2.1 ≠ va))
theorem Allows_ok {p mb : Nat} {A : All} {w : World} (hR : (mapRes p mb A).R w) (ok : AllOk A) (sp se id k : Int) (nm : ByteArray) (a b er va : Int) (hnm : nm.size ≤ maxLen) (ha : i64 a) (hv : i64 va) :
    Calls Try.prog 21 #[pV p, .agg (effV sp se id k nm a b er va)] w fun e w' => ∃ y : Nat × All, e = .returned (.bool (allowB (doF A 0 k nm a b va) er va)) ∧ (Same (if allowB (doF A 0 k nm a b va) er va then (doF A 0 k nm a b va).1 else A) y.2 ∧ AllOk y.2) ∧ Frm (mapRes p mb A).fp w w' ∧ (mapRes p y.1 y.2).R w' ∧ (∀ x ∈ (mapRes p y.1 y.2).fp, x ∈ (mapRes p mb A).fp ∨ w.heap.size ≤ x) ∧ ∀ x ∈ (mapRes p y.1 y.2).fp, x < w'.heap.size := by
  have hI : Inv (cx 40 [] (mapRes p mb A).fp w) w [0] [⟨59, [.res (mapRes p mb A)], true⟩] := (Inv.nil w).consR (by simp) hR (mapRes_lt hR) (by simp)
  refine calls_sm (cx 40 [] (mapRes p mb A).fp w) (vals := [.raw (pV p), .agg (effS sp se id k nm a b er va)]) mixed Try.func21 rfl rfl rfl hI rfl (st rfl ?_); conv => arg 3; whnf
  (repeat (first | (refine n_must rfl ?_; (refine st rfl ?_; conv => arg 3; whnf)) | (refine n_chk (drawF_ok (by decide +kernel)) ?_; (refine st rfl ?_; conv => arg 3; whnf)) | (refine n_same rfl ?_; (refine st rfl ?_; conv => arg 3; whnf)) | (refine n_brT ?_ ?_; (focus (simp <;> fail)); (refine st rfl ?_; conv => arg 3; whnf)) | (refine n_brF ?_ ?_; (focus (simp <;> fail)); (refine st rfl ?_; conv => arg 3; whnf))))
  refine n_call1 rfl fun eb => ?_
  refine n_callN (fun y : Nat × Nat × All => mapRes y.1 y.2.1 y.2.2) 59 (fun y => .raw (pV y.1)) (fun y => pV y.1) (fun y => Same A y.2.2 ∧ (y.2.2.map (·.1)).Nodup) rfl rfl rfl (fun _ => rfl) (fun w1 hI1 => (Copy_ok (hI1.res 0 rfl rfl)).mono fun e w' ⟨y, he, hs, hf⟩ => ⟨y, he, ⟨hs, hf.2.1.2.1.nodup⟩, hf⟩) ?_
  rintro ⟨p2, mb2, A2⟩ ⟨hsame, hnd⟩ hnew
  dsimp only at hsame hnd
  have ok2 := ok.like hsame hnd
  (refine st rfl ?_; conv => arg 3; whnf)
  (repeat (first | (refine n_must rfl ?_; (refine st rfl ?_; conv => arg 3; whnf)) | (refine n_chk (drawF_ok (by decide +kernel)) ?_; (refine st rfl ?_; conv => arg 3; whnf)) | (refine n_same rfl ?_; (refine st rfl ?_; conv => arg 3; whnf)) | (refine n_must ?_ ?_; (focus (first | (simp; done) | (simp; omega))); (refine st rfl ?_; conv => arg 3; whnf)) | (refine n_brT ?_ ?_; (focus (first | (simp; done) | (simp; omega))); (refine st rfl ?_; conv => arg 3; whnf)) | (refine n_brF ?_ ?_; (focus (first | (simp; done) | (simp; omega))); (refine st rfl ?_; conv => arg 3; whnf))))
  refine n_callR (Y := Nat) 2 (fun hn => mapRes p2 mb2 (doF A2 hn k nm a b va).1) (fun hn => ansS (doF A2 hn k nm a b va).2.1 (doF A2 hn k nm a b va).2.2) (fun hn => ansV (doF A2 hn k nm a b va).2.1 (doF A2 hn k nm a b va).2.2) (fun _ => True) rfl rfl (fun _ => rfl) rfl rfl rfl (fun _ w1 hp1 hI1 hR => Do_ok hR ok2 k nm a b va hnm ha hv) ?_
  intro hn _
  obtain ⟨d1, d2⟩ := doF_like hsame 0 hn k nm a b va
  have dok := doF_ok ok2 hn k nm a b va
  rw [d1]
  generalize doF A2 hn k nm a b va = D2 at d1 d2 dok
  generalize doF A 0 k nm a b va = D at d1 d2
  (refine st rfl ?_; conv => arg 3; whnf)
  (repeat (first | (refine n_must rfl ?_; (refine st rfl ?_; conv => arg 3; whnf)) | (refine n_chk (drawF_ok (by decide +kernel)) ?_; (refine st rfl ?_; conv => arg 3; whnf)) | (refine n_same rfl ?_; (refine st rfl ?_; conv => arg 3; whnf)) | (refine n_must ?_ ?_; (focus (first | (simp; done) | (simp; omega))); (refine st rfl ?_; conv => arg 3; whnf)) | (refine n_brT ?_ ?_; (focus (first | (simp; done) | (simp; omega))); (refine st rfl ?_; conv => arg 3; whnf)) | (refine n_brF ?_ ?_; (focus (first | (simp; done) | (simp; omega))); (refine st rfl ?_; conv => arg 3; whnf))))
  by_cases c1 : D.2.2 = 1
  · have hB : allowB D er va = false := by simp [allowB, c1]
    (repeat (first | (refine n_must rfl ?_; (refine st rfl ?_; conv => arg 3; whnf)) | (refine n_chk (drawF_ok (by decide +kernel)) ?_; (refine st rfl ?_; conv => arg 3; whnf)) | (refine n_same rfl ?_; (refine st rfl ?_; conv => arg 3; whnf)) | (refine n_must ?_ ?_; (focus (first | (simp [c1]; done) | (simp [c1]; omega) | (simp only [c1]; simp; done))); (refine st rfl ?_; conv => arg 3; whnf)) | (refine n_brT ?_ ?_; (focus (first | (simp [c1]; done) | (simp [c1]; omega) | (simp only [c1]; simp; done))); (refine st rfl ?_; conv => arg 3; whnf)) | (refine n_brF ?_ ?_; (focus (first | (simp [c1]; done) | (simp [c1]; omega) | (simp only [c1]; simp; done))); (refine st rfl ?_; conv => arg 3; whnf))))
    rw [hB]
    exact n_ret0 rfl rfl fun ids' w' hp hI' => ⟨(mb, A), rfl, ⟨by simpa using Same.refl A, ok⟩, hI'.frm, hI'.res 0 rfl rfl, fun x hx => hI'.own 0 _ rfl rfl x (by rw [fpOf_res (r := mapRes p mb A) rfl]; exact hx), hI'.resLt 0 rfl rfl⟩
  by_cases c2 : D.2.2 ≠ er
  · have hB : allowB D er va = false := by simp [allowB, c1, c2]
    (repeat (first | (refine n_must rfl ?_; (refine st rfl ?_; conv => arg 3; whnf)) | (refine n_chk (drawF_ok (by decide +kernel)) ?_; (refine st rfl ?_; conv => arg 3; whnf)) | (refine n_same rfl ?_; (refine st rfl ?_; conv => arg 3; whnf)) | (refine n_must ?_ ?_; (focus (first | (simp [c1, c2]; done) | (simp [c1, c2]; omega) | (simp only [c1, c2]; simp; done))); (refine st rfl ?_; conv => arg 3; whnf)) | (refine n_brT ?_ ?_; (focus (first | (simp [c1, c2]; done) | (simp [c1, c2]; omega) | (simp only [c1, c2]; simp; done))); (refine st rfl ?_; conv => arg 3; whnf)) | (refine n_brF ?_ ?_; (focus (first | (simp [c1, c2]; done) | (simp [c1, c2]; omega) | (simp only [c1, c2]; simp; done))); (refine st rfl ?_; conv => arg 3; whnf))))
    rw [hB]
    exact n_ret0 rfl rfl fun ids' w' hp hI' => ⟨(mb, A), rfl, ⟨by simpa using Same.refl A, ok⟩, hI'.frm, hI'.res 0 rfl rfl, fun x hx => hI'.own 0 _ rfl rfl x (by rw [fpOf_res (r := mapRes p mb A) rfl]; exact hx), hI'.resLt 0 rfl rfl⟩
  replace c2 : D.2.2 = er := Classical.not_not.1 c2
  by_cases c3 : D.2.1 ≠ va
  · have hB : allowB D er va = false := by simp [allowB, c1, c2, c3]
    (repeat (first | (refine n_must rfl ?_; (refine st rfl ?_; conv => arg 3; whnf)) | (refine n_chk (drawF_ok (by decide +kernel)) ?_; (refine st rfl ?_; conv => arg 3; whnf)) | (refine n_same rfl ?_; (refine st rfl ?_; conv => arg 3; whnf)) | (refine n_must ?_ ?_; (focus (first | (simp [c1, c2, c3]; done) | (simp [c1, c2, c3]; omega) | (simp only [c1, c2, c3]; simp; done))); (refine st rfl ?_; conv => arg 3; whnf)) | (refine n_brT ?_ ?_; (focus (first | (simp [c1, c2, c3]; done) | (simp [c1, c2, c3]; omega) | (simp only [c1, c2, c3]; simp; done))); (refine st rfl ?_; conv => arg 3; whnf)) | (refine n_brF ?_ ?_; (focus (first | (simp [c1, c2, c3]; done) | (simp [c1, c2, c3]; omega) | (simp only [c1, c2, c3]; simp; done))); (refine st rfl ?_; conv => arg 3; whnf))))
    rw [hB]
    exact n_ret0 rfl rfl fun ids' w' hp hI' => ⟨(mb, A), rfl, ⟨by simpa using Same.refl A, ok⟩, hI'.frm, hI'.res 0 rfl rfl, fun x hx => hI'.own 0 _ rfl rfl x (by rw [fpOf_res (r := mapRes p mb A) rfl]; exact hx), hI'.resLt 0 rfl rfl⟩
  replace c3 : D.2.1 = va := Classical.not_not.1 c3
  have hB : allowB D er va = true := by simp [allowB, c1, c2, c3]; exact fun e => c1 (c2.trans e)
  (repeat (first | (refine n_must rfl ?_; (refine st rfl ?_; conv => arg 3; whnf)) | (refine n_chk (drawF_ok (by decide +kernel)) ?_; (refine st rfl ?_; conv => arg 3; whnf)) | (refine n_same rfl ?_; (refine st rfl ?_; conv => arg 3; whnf)) | (refine n_must ?_ ?_; (focus (first | (simp [c1, c2, c3]; done) | (simp [c1, c2, c3]; omega) | (simp only [c1, c2, c3]; simp; done))); (refine st rfl ?_; conv => arg 3; whnf)) | (refine n_brT ?_ ?_; (focus (first | (simp [c1, c2, c3]; done) | (simp [c1, c2, c3]; omega) | (simp only [c1, c2, c3]; simp; done))); (refine st rfl ?_; conv => arg 3; whnf)) | (refine n_brF ?_ ?_; (focus (first | (simp [c1, c2, c3]; done) | (simp [c1, c2, c3]; omega) | (simp only [c1, c2, c3]; simp; done))); (refine st rfl ?_; conv => arg 3; whnf))))
  refine n_ldI (.raw (.map (some mb2))) rfl rfl (fun _ w1 _ hI1 => mapRes_ld (hI1.res 2 rfl rfl)) ?_
  (refine st rfl ?_; conv => arg 3; whnf)
  (repeat (first | (refine n_must rfl ?_; (refine st rfl ?_; conv => arg 3; whnf)) | (refine n_chk (drawF_ok (by decide +kernel)) ?_; (refine st rfl ?_; conv => arg 3; whnf)) | (refine n_same rfl ?_; (refine st rfl ?_; conv => arg 3; whnf)) | (refine n_must ?_ ?_; (focus (first | (simp; done) | (simp; omega))); (refine st rfl ?_; conv => arg 3; whnf)) | (refine n_brT ?_ ?_; (focus (first | (simp; done) | (simp; omega))); (refine st rfl ?_; conv => arg 3; whnf)) | (refine n_brF ?_ ?_; (focus (first | (simp; done) | (simp; omega))); (refine st rfl ?_; conv => arg 3; whnf))))
  refine n_opI (setCells (setCells _ 0 [.res ((mapRes p mb A).both (mapRes p2 mb2 D2.1))]) 2 [.res Res.none]) (fun ids' w1 _ hI1 => hI1.absorb 0 2 (by decide) rfl rfl rfl rfl rfl rfl) ?_
  refine n_storeP (n := p) (off := 0) (k := 1) (l := [.map (some mb)]) (rv := .raw (.map (some mb2))) 0 (mapRes p mb2 D2.1) [.map (some mb2)] rfl rfl rfl rfl rfl rfl rfl rfl rfl rfl rfl (by simp [Res.both, mapRes]) (fun w h => h.1.1) (by simp) rfl (fun w w' h hf hb => mapRes_moved h hf hb) (by simp [Res.both, mapRes]; grind) ?_
  (refine st rfl ?_; conv => arg 3; whnf)
  (repeat (first | (refine n_must rfl ?_; (refine st rfl ?_; conv => arg 3; whnf)) | (refine n_chk (drawF_ok (by decide +kernel)) ?_; (refine st rfl ?_; conv => arg 3; whnf)) | (refine n_same rfl ?_; (refine st rfl ?_; conv => arg 3; whnf)) | (refine n_must ?_ ?_; (focus (first | (simp; done) | (simp; omega))); (refine st rfl ?_; conv => arg 3; whnf)) | (refine n_brT ?_ ?_; (focus (first | (simp; done) | (simp; omega))); (refine st rfl ?_; conv => arg 3; whnf)) | (refine n_brF ?_ ?_; (focus (first | (simp; done) | (simp; omega))); (refine st rfl ?_; conv => arg 3; whnf))))
  rw [hB]
  exact n_ret0 rfl rfl fun ids' w' hp hI' => ⟨(mb2, D2.1), rfl, ⟨by simpa using d2, dok⟩, hI'.frm, hI'.res 0 rfl rfl, fun x hx => hI'.own 0 _ rfl rfl x (by rw [fpOf_res (r := mapRes p mb2 D2.1) rfl]; exact hx), hI'.resLt 0 rfl rfl⟩
end Go.Proofs.Yteapjjkgbnnipaa
