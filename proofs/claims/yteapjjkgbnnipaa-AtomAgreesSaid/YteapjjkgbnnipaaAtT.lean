/- Chapter 16's law: AtomAgrees: plain laws of an effect, and the walk. -/
import Derived.Test.YteapjjkgbnnipaaAtS
import Derived.Test.YteapjjkgbnnipaaAtK
set_option maxRecDepth 100000
set_option linter.unusedSimpArgs false
set_option linter.unusedVariables false
set_option maxHeartbeats 4000000
namespace Go.Proofs.Yteapjjkgbnnipaa
open Go.RowKit

theorem wrap_ne {x o : Int} (ho : 1 ≤ o ∧ o ≤ 1000) (hx : i64 x) : IntKind.i64.wrap (x + o) ≠ x := by
  unfold IntKind.wrap
  simp [IntKind.bits, IntKind.signed]
  omega
theorem wrap_i64 (x : Int) : i64 (IntKind.i64.wrap x) := by
  unfold IntKind.wrap
  simp [IntKind.bits, IntKind.signed]
  omega
theorem actF_r {s : Ctr} (ok : s.ok) {k a b h : Int} (ha : i64 a) (hh : i64 h) : i64 (actF s k a b h).2.1 ∧ i64 (actF s k a b h).2.2 := by
  have h1 := had_le ok.all a
  rw [← ok.held] at h1
  have v0 := ok.v0
  have h0 := ok.h0
  have hs := ok.sum
  have hc := ok.cap
  change 0 ≤ s.had a ∧ s.had a ≤ s.held at h1
  unfold actF Ctr.inc Ctr.hold Ctr.end_ Ctr.take Ctr.reset Ctr.recap
  repeat' split
  all_goals (dsimp only; omega)
theorem doF_r {A : All} (ok : AllOk A) {hn : Nat} {k : Int} {nm : ByteArray} {a b h : Int} (ha : i64 a) (hh : i64 h) : i64 (doF A hn k nm a b h).2.1 ∧ i64 (doF A hn k nm a b h).2.2 := by
  unfold doF
  split
  · dsimp only; omega
  · split
    · repeat' split
      all_goals (dsimp only; omega)
    · rename_i s hs
      split
      · dsimp only; omega
      · exact actF_r (ok _ (mget_some hs)) ha hh

section
variable {A T : All} {hn : Nat} {k : Int} {nm : ByteArray} {a b hh o : Int}
theorem allow_y (hs : Same A T) (ok : AllOk A) (ha : i64 a) (hh64 : i64 hh) (hk : k ≠ 4) (ho : 1 ≤ o ∧ o ≤ 1000) (er va : Int) (hva : va = IntKind.i64.wrap ((doF A hn k nm a b hh).2.1 + o)) : allowB (doF T 0 k nm a b va) er va = false := by
  have h1 := (doF_like hs hn 0 k nm a b va).1
  rw [doF_hold hn hk nm a b va hh] at h1
  have h2 := wrap_ne ho (doF_r (hn := hn) (k := k) (nm := nm) (b := b) ok ha hh64).1
  rw [← hva] at h2
  simp only [allowB, h1, Bool.not_eq_false', Bool.or_eq_true, decide_eq_true_eq]
  exact .inr fun e => h2 e.symm
theorem allow_again (hs : Same A T) (va er : Int) (hva : va = (doF A hn k nm a b hh).2.1) (her : er = (doF A hn k nm a b hh).2.2) : (doF T 0 k nm a b va).2 = (va, er) ∨ er = 1 ∧ (doF T 0 k nm a b va).2.2 = 1 := by
  have h1 := (doF_like hs hn 0 k nm a b va).1
  rcases doF_again (A := A) hn k nm a b hh with h2 | ⟨h2, h3⟩
  · rw [← hva] at h2
    rw [h1, h2]
    exact .inl (by rw [hva, her])
  · rw [← hva] at h3
    rw [h1]
    exact .inr ⟨her.trans h2, h3⟩
theorem allow_z (hs : Same A T) (ok : AllOk A) (ha : i64 a) (hh64 : i64 hh) (ho : 1 ≤ o ∧ o ≤ 1000) (er va e : Int) (hva : va = (doF A hn k nm a b hh).2.1) (he : e = (doF A hn k nm a b hh).2.2) (her : er = IntKind.i64.wrap (e + o)) : allowB (doF T 0 k nm a b va) er va = false := by
  have h2 := wrap_ne ho (doF_r (hn := hn) (k := k) (nm := nm) (b := b) ok ha hh64).2
  rw [← he, ← her] at h2
  rcases allow_again hs va e hva he with h | ⟨_, h⟩
  · simp only [allowB, h, Bool.not_eq_false', Bool.or_eq_true, decide_eq_true_eq]
    exact .inl (.inr fun e => h2 e.symm)
  · simp [allowB, h]
theorem allow_x (hs : Same A T) (va er : Int) (hva : va = (doF A hn k nm a b hh).2.1) (her : er = (doF A hn k nm a b hh).2.2) : allowB (doF T 0 k nm a b va) er va = decide (er ≠ 1) ∧
    ∀ T', Same (if decide (er ≠ 1) then (doF T 0 k nm a b va).1 else T) T' → Same (doF A hn k nm a b hh).1 T' := by
  rcases allow_again hs va er hva her with h | ⟨h1, h⟩
  · refine ⟨?_, fun T' hT => ?_⟩
    · simp only [allowB, h]; by_cases e : er = 1 <;> simp [e]
    · by_cases e : er = 1
      · have h3 := (doF_errs (A := A) (hn := hn) (k := k) (nm := nm) (a := a) (b := b) (h := hh) (by rw [← her, e]; decide)).1
        rw [h3]
        simp [e] at hT
        exact hs.trans hT
      · simp only [e, ne_eq, not_false_eq_true, decide_true, if_true] at hT
        refine Same.trans ?_ hT
        have h2 := (doF_like hs hn 0 k nm a b va).2
        rcases doF_again (A := A) hn k nm a b hh with g | ⟨g, _⟩
        · rw [← hva] at g
          rwa [g] at h2
        · exact absurd (her.trans g) e
  · refine ⟨by simp [allowB, h, h1], fun T' hT => ?_⟩
    have h3 := (doF_errs (A := A) (hn := hn) (k := k) (nm := nm) (a := a) (b := b) (h := hh) (by rw [← her, h1]; decide)).1
    rw [h3]
    simp [h1] at hT
    exact hs.trans hT
end
theorem looksOf_like {A T : All} (h : Same A T) (Ns : List ByteArray) : looksOf T Ns = looksOf A Ns := by
  unfold looksOf
  exact List.map_congr_left fun nm _ => look_like h nm

theorem AtomAgrees_ok {w : World} {o : Option Addr} {n : Nat} {f : Nat → Act5} (h : ActsAt w o n f) (cap : Nat) (ot : Int) (hot : i64 ot) :
    Calls Try.prog 5 #[.slice o n cap, .int .i64 ot] w fun e w' => e = .returned (.bool true) ∧ Frm [] w w' := by
  have hI := Inv.nil (P := Try.prog) (N := 115) (S := []) (os := []) w
  have hlen := h.len
  generalize hO : withinF ot 1 1000 = other
  have bO : 1 ≤ other ∧ other ≤ 1000 := hO ▸ within_le (by omega)
  refine calls_sm (cx 115 [] [] w) (vals := [.raw (.slice o n cap), .int .i64 ot]) mixed Try.func5 rfl rfl rfl hI rfl (st rfl ?_); conv => arg 3; whnf
  (repeat (first | (refine n_must rfl ?_; (refine st rfl ?_; conv => arg 3; whnf)) | (refine n_chk (drawF_ok (by decide +kernel)) ?_; (refine st rfl ?_; conv => arg 3; whnf)) | (refine n_same rfl ?_; (refine st rfl ?_; conv => arg 3; whnf)) | (refine n_brT ?_ ?_; (focus (simp <;> fail)); (refine st rfl ?_; conv => arg 3; whnf)) | (refine n_brF ?_ ?_; (focus (simp <;> fail)); (refine st rfl ?_; conv => arg 3; whnf))))
  refine n_sameP (.lit true) rfl rfl rfl (fun _ w1 hp1 hI1 => alive_ok w1) ?_; (refine st rfl ?_; conv => arg 3; whnf)
  (repeat (first | (refine n_must rfl ?_; (refine st rfl ?_; conv => arg 3; whnf)) | (refine n_chk (drawF_ok (by decide +kernel)) ?_; (refine st rfl ?_; conv => arg 3; whnf)) | (refine n_same rfl ?_; (refine st rfl ?_; conv => arg 3; whnf)) | (refine n_brT ?_ ?_; (focus (simp <;> fail)); (refine st rfl ?_; conv => arg 3; whnf)) | (refine n_brF ?_ ?_; (focus (simp <;> fail)); (refine st rfl ?_; conv => arg 3; whnf))))
  refine n_callN (fun y : Nat × Nat => mapRes y.1 y.2 []) 59 (fun y => .raw (pV y.1)) (fun y => pV y.1) (fun _ => True) rfl rfl rfl (fun _ => rfl) (fun w1 hI1 => New_ok w1) ?_
  rintro ⟨p, mb⟩ _ hnew
  (refine st rfl ?_; conv => arg 3; whnf)
  (repeat (first | (refine n_must rfl ?_; (refine st rfl ?_; conv => arg 3; whnf)) | (refine n_chk (drawF_ok (by decide +kernel)) ?_; (refine st rfl ?_; conv => arg 3; whnf)) | (refine n_same rfl ?_; (refine st rfl ?_; conv => arg 3; whnf)) | (refine n_must ?_ ?_; (focus (first | (simp; done) | (simp; omega))); (refine st rfl ?_; conv => arg 3; whnf)) | (refine n_brT ?_ ?_; (focus (first | (simp; done) | (simp; omega))); (refine st rfl ?_; conv => arg 3; whnf)) | (refine n_brF ?_ ?_; (focus (first | (simp; done) | (simp; omega))); (refine st rfl ?_; conv => arg 3; whnf))))
  refine n_callN (fun y : Option Addr × Nat => rowRes 9 1 y.1 (min n 300) y.2 (strs (namesOf f (min n 300)))) 9 (fun y => .raw (.slice y.1 (min n 300) y.2)) (fun y => .slice y.1 (min n 300) y.2) (fun y => 0 < min n 300 → ∃ g, y.1 = some ⟨g, 0, none⟩) rfl rfl rfl (fun _ => rfl) (fun w1 hI1 => (spoken_ok (h.frm hI1.frm) cap).mono fun e w' ⟨y, he, _, hf⟩ => ⟨y, he, fun h0 => rowRes_some hf.2.1 h0, hf⟩) ?_
  rintro ⟨on, cn⟩ hon hnn
  dsimp only at hon
  (refine st rfl ?_; conv => arg 3; whnf)
  (repeat (first | (refine n_must rfl ?_; (refine st rfl ?_; conv => arg 3; whnf)) | (refine n_chk (drawF_ok (by decide +kernel)) ?_; (refine st rfl ?_; conv => arg 3; whnf)) | (refine n_same rfl ?_; (refine st rfl ?_; conv => arg 3; whnf)) | (refine n_must ?_ ?_; (focus (first | (simp; done) | (simp; omega))); (refine st rfl ?_; conv => arg 3; whnf)) | (refine n_brT ?_ ?_; (focus (first | (simp; done) | (simp; omega))); (refine st rfl ?_; conv => arg 3; whnf)) | (refine n_brF ?_ ?_; (focus (first | (simp; done) | (simp; omega))); (refine st rfl ?_; conv => arg 3; whnf))))
  refine n_sameP (.int .i64 other) rfl rfl rfl (fun _ w1 hp1 hI1 => hO ▸ within_ok ot 1 1000 hot (by omega) (by omega) (by omega) w1) ?_; (refine st rfl ?_; conv => arg 3; whnf)
  (repeat (first | (refine n_must rfl ?_; (refine st rfl ?_; conv => arg 3; whnf)) | (refine n_chk (drawF_ok (by decide +kernel)) ?_; (refine st rfl ?_; conv => arg 3; whnf)) | (refine n_same rfl ?_; (refine st rfl ?_; conv => arg 3; whnf)) | (refine n_must ?_ ?_; (focus (first | (simp; done) | (simp; omega))); (refine st rfl ?_; conv => arg 3; whnf)) | (refine n_brT ?_ ?_; (focus (first | (simp; done) | (simp; omega))); (refine st rfl ?_; conv => arg 3; whnf)) | (refine n_brF ?_ ?_; (focus (first | (simp; done) | (simp; omega))); (refine st rfl ?_; conv => arg 3; whnf))))
  have hns : ∀ nm ∈ namesOf f (min n 300), nm.size ≤ maxLen := by
    intro nm hnm
    obtain ⟨i, hi, rfl⟩ := List.mem_map.1 hnm
    exact (h.good i (by simp at hi; omega)).2.1
  have hnl : (namesOf f (min n 300)).length = min n 300 := by simp [namesOf]
  have hm3 : min n 300 ≤ 300 := by omega
  have hmn : min n 60 ≤ min n 300 := by omega
  generalize hNs : namesOf f (min n 300) = Ns at *
  generalize hm : min n 300 = m at *
  generalize hm6 : min n 60 = m6 at *
  refine n_loop (σ := Nat × All) (fun s => [(0, .raw (.slice o n cap)), (1, .int .i64 other), (6, .raw (pV p)), (7, .raw (.slice on m cn)), (8, .int .i64 (s.1 : Nat))]) (fun s => [⟨59, [.res (mapRes p mb s.2)], true⟩, ⟨9, [.res (rowRes 9 1 on m cn (strs Ns))], true⟩]) (fun s => s.1 ≤ m6 ∧ AllOk s.2) (fun s => m6 - s.1) (0, []) mixed ⟨by simp, by simp⟩ (fun _ _ => rfl) rfl (by (repeat (first | exact trivial | refine ⟨⟨rfl, rfl⟩, ?_⟩))) (fun s _ => ⟨by (repeat (first | exact trivial | refine ⟨⟨_, rfl⟩, ?_⟩)), by (repeat (first | exact trivial | refine ⟨⟨_, rfl⟩, ?_⟩))⟩) fun s hJ => ?_
  obtain ⟨i, A⟩ := s
  obtain ⟨hi, ok⟩ := hJ
  dsimp only at hi ok ⊢
  (refine st rfl ?_; conv => arg 3; whnf)
  by_cases hlt : i < m6
  · have h1 : i < n := by omega
    have h2 : i < 60 := by omega
    have ei : IntKind.i64.wrap ((i : Int) + 1) = ((i + 1 : Nat) : Int) := by rw [w64 (by omega) (by omega)]; simp
    obtain ⟨ad, rfl, hat⟩ := h.at_ h1
    have hgood := h.good i h1
    have hld : ∀ w' ad', Frm [] w w' → ad' = ad.add (i * 5) → (loadVar 29 ad').run Try.prog w' = .ok (.agg (opV (f i).k (f i).nm (f i).a (f i).b)) w' := fun w' ad' hf had => op_ld (o := none) (n := n) hat hf had
    have hlh : ∀ w' ad', Frm [] w w' → ad' = (ad.add (i * 5)).add 4 → (loadVar 3 ad').run Try.prog w' = .ok (.int .i64 (f i).h) w' := fun w' ad' hf had => load_cell aggInt (by subst had; rw [add_add]; exact hat w' hf 4 _ rfl)
    generalize hx : f i = x at hgood hld hlh
    obtain ⟨k, nm, a, b, hh⟩ := x
    dsimp only at hgood hld hlh
    (repeat (first | (refine n_must rfl ?_; (refine st rfl ?_; conv => arg 3; whnf)) | (refine n_chk (drawF_ok (by decide +kernel)) ?_; (refine st rfl ?_; conv => arg 3; whnf)) | (refine n_same rfl ?_; (refine st rfl ?_; conv => arg 3; whnf)) | (refine n_must ?_ ?_; (focus (first | (simp; done) | (simp; omega))); (refine st rfl ?_; conv => arg 3; whnf)) | (refine n_brT ?_ ?_; (focus (first | (simp; done) | (simp; omega))); (refine st rfl ?_; conv => arg 3; whnf)) | (refine n_brF ?_ ?_; (focus (first | (simp; done) | (simp; omega))); (refine st rfl ?_; conv => arg 3; whnf))))
    refine n_ld (.agg (opS k nm a b)) rfl rfl (fun w' hf => hld w' _ hf (by simp [add_add])) ?_
    (refine st rfl ?_; conv => arg 3; whnf)
    (repeat (first | (refine n_must rfl ?_; (refine st rfl ?_; conv => arg 3; whnf)) | (refine n_chk (drawF_ok (by decide +kernel)) ?_; (refine st rfl ?_; conv => arg 3; whnf)) | (refine n_same rfl ?_; (refine st rfl ?_; conv => arg 3; whnf)) | (refine n_must ?_ ?_; (focus (first | (simp; done) | (simp; omega))); (refine st rfl ?_; conv => arg 3; whnf)) | (refine n_brT ?_ ?_; (focus (first | (simp; done) | (simp; omega))); (refine st rfl ?_; conv => arg 3; whnf)) | (refine n_brF ?_ ?_; (focus (first | (simp; done) | (simp; omega))); (refine st rfl ?_; conv => arg 3; whnf))))
    refine n_call1 rfl fun ob => ?_
    refine n_callN (fun y : Nat × Nat × All => mapRes y.1 y.2.1 y.2.2) 59 (fun y => .raw (pV y.1)) (fun y => pV y.1) (fun y => Same A y.2.2 ∧ (y.2.2.map (·.1)).Nodup) rfl rfl rfl (fun _ => rfl) (fun w1 hI1 => (Copy_ok (hI1.res 0 rfl rfl)).mono fun e w' ⟨y, he, hs, hf⟩ => ⟨y, he, ⟨hs, hf.2.1.2.1.nodup⟩, hf⟩) ?_
    rintro ⟨p2, mb2, A2⟩ ⟨hsame, hnd⟩ hnew2
    dsimp only at hsame hnd
    have ok2 := ok.like hsame hnd
    obtain ⟨gn, rfl⟩ := hon (by omega)
    (refine st rfl ?_; conv => arg 3; whnf)
    (repeat (first | (refine n_must rfl ?_; (refine st rfl ?_; conv => arg 3; whnf)) | (refine n_chk (drawF_ok (by decide +kernel)) ?_; (refine st rfl ?_; conv => arg 3; whnf)) | (refine n_same rfl ?_; (refine st rfl ?_; conv => arg 3; whnf)) | (refine n_must ?_ ?_; (focus (first | (simp; done) | (simp; omega))); (refine st rfl ?_; conv => arg 3; whnf)) | (refine n_brT ?_ ?_; (focus (first | (simp; done) | (simp; omega))); (refine st rfl ?_; conv => arg 3; whnf)) | (refine n_brF ?_ ?_; (focus (first | (simp; done) | (simp; omega))); (refine st rfl ?_; conv => arg 3; whnf))))
    refine n_ldD (.int .i64 hh) rfl rfl (fun w' hf => hlh w' _ hf (by simp)) ?_
    (refine st rfl ?_; conv => arg 3; whnf)
    (repeat (first | (refine n_must rfl ?_; (refine st rfl ?_; conv => arg 3; whnf)) | (refine n_chk (drawF_ok (by decide +kernel)) ?_; (refine st rfl ?_; conv => arg 3; whnf)) | (refine n_same rfl ?_; (refine st rfl ?_; conv => arg 3; whnf)) | (refine n_must ?_ ?_; (focus (first | (simp; done) | (simp; omega))); (refine st rfl ?_; conv => arg 3; whnf)) | (refine n_brT ?_ ?_; (focus (first | (simp; done) | (simp; omega))); (refine st rfl ?_; conv => arg 3; whnf)) | (refine n_brF ?_ ?_; (focus (first | (simp; done) | (simp; omega))); (refine st rfl ?_; conv => arg 3; whnf))))
    refine n_callR (Y := Nat) 0 (fun hn => mapRes p mb (doF A hn k nm a b hh).1) (fun hn => ansS (doF A hn k nm a b hh).2.1 (doF A hn k nm a b hh).2.2) (fun hn => ansV (doF A hn k nm a b hh).2.1 (doF A hn k nm a b hh).2.2) (fun _ => True) rfl rfl (fun _ => rfl) rfl rfl rfl (fun _ w1 hp1 hI1 hR => Do_ok hR ok k nm a b hh hgood.2.1 hgood.2.2.1 hgood.2.2.2.2) ?_
    intro hn _
    have dok := doF_ok ok hn k nm a b hh
    have hr64 := (doF_r (hn := hn) (k := k) (nm := nm) (b := b) ok hgood.2.2.1 hgood.2.2.2.2).1
    generalize hr : (doF A hn k nm a b hh).2.1 = r at hr64
    generalize he : (doF A hn k nm a b hh).2.2 = e
    have ay := fun hk er => allow_y (hn := hn) (nm := nm) (b := b) (o := other) hsame ok hgood.2.2.1 hgood.2.2.2.2 (k := k) hk bO er _ rfl
    rw [hr] at ay
    generalize hA' : (doF A hn k nm a b hh).1 = A' at dok
    (refine st rfl ?_; conv => arg 3; whnf)
    (repeat (first | (refine n_must rfl ?_; (refine st rfl ?_; conv => arg 3; whnf)) | (refine n_chk (drawF_ok (by decide +kernel)) ?_; (refine st rfl ?_; conv => arg 3; whnf)) | (refine n_same rfl ?_; (refine st rfl ?_; conv => arg 3; whnf)) | (refine n_must ?_ ?_; (focus (first | (simp; done) | (simp; omega))); (refine st rfl ?_; conv => arg 3; whnf)) | (refine n_brT ?_ ?_; (focus (first | (simp; done) | (simp; omega))); (refine st rfl ?_; conv => arg 3; whnf)) | (refine n_brF ?_ ?_; (focus (first | (simp; done) | (simp; omega))); (refine st rfl ?_; conv => arg 3; whnf))))
    refine n_call1 rfl fun xb => ?_
    refine n_callN (fun y : Option Addr × Nat => rowRes 39 4 y.1 m y.2 (looksC (looksOf A2 Ns))) 39 (fun y => .raw (.slice y.1 m y.2)) (fun y => .slice y.1 m y.2) (fun y => 0 < m → ∃ g, y.1 = some ⟨g, 0, none⟩) rfl rfl rfl (fun _ => rfl) (fun w1 hI1 => (looked_ok (hI1.res 3 rfl rfl) (hI1.res 1 rfl rfl) (hI1.resLt 1 rfl rfl) (hI1.res_res 3 1 (by decide) rfl rfl rfl rfl) hnl hm3 hns).mono fun e w' ⟨y, he, _, hf⟩ => ⟨y, he, fun h0 => rowRes_some hf.2.1 h0, hf⟩) ?_
    rintro ⟨ow, cw⟩ how hnw
    dsimp only at how
    obtain ⟨gw, rfl⟩ := how (by omega)
    (refine st rfl ?_; conv => arg 3; whnf)
    (repeat (first | (refine n_must rfl ?_; (refine st rfl ?_; conv => arg 3; whnf)) | (refine n_chk (drawF_ok (by decide +kernel)) ?_; (refine st rfl ?_; conv => arg 3; whnf)) | (refine n_same rfl ?_; (refine st rfl ?_; conv => arg 3; whnf)) | (refine n_must ?_ ?_; (focus (first | (simp; done) | (simp; omega))); (refine st rfl ?_; conv => arg 3; whnf)) | (refine n_brT ?_ ?_; (focus (first | (simp; done) | (simp; omega))); (refine st rfl ?_; conv => arg 3; whnf)) | (refine n_brF ?_ ?_; (focus (first | (simp; done) | (simp; omega))); (refine st rfl ?_; conv => arg 3; whnf))))
    have lw : (looksOf A2 Ns).length = m := by simp [looksOf, hnl]
    have hva := wrap_i64 (r + other)
    by_cases hk : k ≠ 4
    · (repeat (first | (refine n_must rfl ?_; (refine st rfl ?_; conv => arg 3; whnf)) | (refine n_chk (drawF_ok (by decide +kernel)) ?_; (refine st rfl ?_; conv => arg 3; whnf)) | (refine n_same rfl ?_; (refine st rfl ?_; conv => arg 3; whnf)) | (refine n_must ?_ ?_; (focus (first | (simp [hk]; done) | (simp [hk]; omega) | (simp only [hk]; simp; done))); (refine st rfl ?_; conv => arg 3; whnf)) | (refine n_brT ?_ ?_; (focus (first | (simp [hk]; done) | (simp [hk]; omega) | (simp only [hk]; simp; done))); (refine st rfl ?_; conv => arg 3; whnf)) | (refine n_brF ?_ ?_; (focus (first | (simp [hk]; done) | (simp [hk]; omega) | (simp only [hk]; simp; done))); (refine st rfl ?_; conv => arg 3; whnf))))
      have ay' := ay hk e
      refine n_callR (Y := Nat × All) 3 (fun y => mapRes p2 y.1 y.2) (fun _ => .bool false) (fun _ => .bool false) (fun y => Same A2 y.2 ∧ AllOk y.2) rfl rfl (fun _ => rfl) rfl rfl rfl (fun _ w1 hp1 hI1 hR => (Allows_ok hR ok2 0 0 0 k nm a b _ (IntKind.i64.wrap (r + other)) hgood.2.1 hgood.2.2.1 hva).mono fun e' w' ⟨y, he', hs', hf'⟩ => by rw [ay'] at he' hs'; exact ⟨y, he', ⟨by simpa using hs'.1, hs'.2⟩, hf'⟩) ?_
      rintro ⟨mb3, A3⟩ ⟨hs3', ok3⟩
      dsimp only at hs3' ok3
      have hs3 : Same A A3 := hsame.trans hs3'
      (refine st rfl ?_; conv => arg 3; whnf)
      (repeat (first | (refine n_must rfl ?_; (refine st rfl ?_; conv => arg 3; whnf)) | (refine n_chk (drawF_ok (by decide +kernel)) ?_; (refine st rfl ?_; conv => arg 3; whnf)) | (refine n_same rfl ?_; (refine st rfl ?_; conv => arg 3; whnf)) | (refine n_must ?_ ?_; (focus (first | (simp; done) | (simp; omega))); (refine st rfl ?_; conv => arg 3; whnf)) | (refine n_brT ?_ ?_; (focus (first | (simp; done) | (simp; omega))); (refine st rfl ?_; conv => arg 3; whnf)) | (refine n_brF ?_ ?_; (focus (first | (simp; done) | (simp; omega))); (refine st rfl ?_; conv => arg 3; whnf))))
      have az := allow_z (k := k) (nm := nm) (b := b) hs3 ok hgood.2.2.1 hgood.2.2.2.2 bO _ r e hr.symm he.symm rfl
      refine n_callR (Y := Nat × All) 3 (fun y => mapRes p2 y.1 y.2) (fun _ => .bool false) (fun _ => .bool false) (fun y => Same A3 y.2 ∧ AllOk y.2) rfl rfl (fun _ => rfl) rfl rfl rfl (fun _ w1 hp1 hI1 hR => (Allows_ok hR ok3 0 0 0 k nm a b _ r hgood.2.1 hgood.2.2.1 hr64).mono fun e' w' ⟨y, he', hs', hf'⟩ => by rw [az] at he' hs'; exact ⟨y, he', ⟨by simpa using hs'.1, hs'.2⟩, hf'⟩) ?_
      rintro ⟨mb4, A4⟩ ⟨hs4', ok4⟩
      dsimp only at hs4' ok4
      have hs4 : Same A A4 := Same.trans hs3 hs4'
      (refine st rfl ?_; conv => arg 3; whnf)
      (repeat (first | (refine n_must rfl ?_; (refine st rfl ?_; conv => arg 3; whnf)) | (refine n_chk (drawF_ok (by decide +kernel)) ?_; (refine st rfl ?_; conv => arg 3; whnf)) | (refine n_same rfl ?_; (refine st rfl ?_; conv => arg 3; whnf)) | (refine n_must ?_ ?_; (focus (first | (simp; done) | (simp; omega))); (refine st rfl ?_; conv => arg 3; whnf)) | (refine n_brT ?_ ?_; (focus (first | (simp; done) | (simp; omega))); (refine st rfl ?_; conv => arg 3; whnf)) | (refine n_brF ?_ ?_; (focus (first | (simp; done) | (simp; omega))); (refine st rfl ?_; conv => arg 3; whnf))))
      refine n_call2 rfl fun yb zb => ?_
      refine n_callN (fun y : Option Addr × Nat => rowRes 39 4 y.1 m y.2 (looksC (looksOf A4 Ns))) 39 (fun y => .raw (.slice y.1 m y.2)) (fun y => .slice y.1 m y.2) (fun y => 0 < m → ∃ g, y.1 = some ⟨g, 0, none⟩) rfl rfl rfl (fun _ => rfl) (fun w1 hI1 => (looked_ok (hI1.res 3 rfl rfl) (hI1.res 1 rfl rfl) (hI1.resLt 1 rfl rfl) (hI1.res_res 3 1 (by decide) rfl rfl rfl rfl) hnl hm3 hns).mono fun e w' ⟨y, he, _, hf⟩ => ⟨y, he, fun h0 => rowRes_some hf.2.1 h0, hf⟩) ?_
      rintro ⟨ow4, cw4⟩ how4 hnw4
      dsimp only at how4
      obtain ⟨gw4, rfl⟩ := how4 (by omega)
      (refine st rfl ?_; conv => arg 3; whnf)
      (repeat (first | (refine n_must rfl ?_; (refine st rfl ?_; conv => arg 3; whnf)) | (refine n_chk (drawF_ok (by decide +kernel)) ?_; (refine st rfl ?_; conv => arg 3; whnf)) | (refine n_same rfl ?_; (refine st rfl ?_; conv => arg 3; whnf)) | (refine n_must ?_ ?_; (focus (first | (simp; done) | (simp; omega))); (refine st rfl ?_; conv => arg 3; whnf)) | (refine n_brT ?_ ?_; (focus (first | (simp; done) | (simp; omega))); (refine st rfl ?_; conv => arg 3; whnf)) | (refine n_brF ?_ ?_; (focus (first | (simp; done) | (simp; omega))); (refine st rfl ?_; conv => arg 3; whnf))))
      refine n_sameP (.bool true) rfl rfl rfl (fun _ w1 hp1 hI1 => same_at (n := m) ((looksOf_like hsame Ns).trans (looksOf_like hs4 Ns).symm) (by simp [looksOf, hnl]) hm3 (hI1.res 8 rfl rfl) (hI1.res 5 rfl rfl) (hI1.resLt 8 rfl rfl) (hI1.resLt 5 rfl rfl) (hI1.res_res 8 5 (by decide) rfl rfl rfl rfl)) ?_; (refine st rfl ?_; conv => arg 3; whnf)
      (repeat (first | (refine n_must rfl ?_; (refine st rfl ?_; conv => arg 3; whnf)) | (refine n_chk (drawF_ok (by decide +kernel)) ?_; (refine st rfl ?_; conv => arg 3; whnf)) | (refine n_same rfl ?_; (refine st rfl ?_; conv => arg 3; whnf)) | (refine n_must ?_ ?_; (focus (first | (simp; done) | (simp; omega))); (refine st rfl ?_; conv => arg 3; whnf)) | (refine n_brT ?_ ?_; (focus (first | (simp; done) | (simp; omega))); (refine st rfl ?_; conv => arg 3; whnf)) | (refine n_brF ?_ ?_; (focus (first | (simp; done) | (simp; omega))); (refine st rfl ?_; conv => arg 3; whnf))))
      obtain ⟨ax1, ax2⟩ := allow_x (hn := hn) (k := k) (nm := nm) (a := a) (b := b) (hh := hh) hs4 r e hr.symm he.symm
      rw [hA'] at ax2
      refine n_callR (Y := Nat × All) 3 (fun y => mapRes p2 y.1 y.2) (fun _ => .bool (decide (e ≠ 1))) (fun _ => .bool (decide (e ≠ 1))) (fun y => Same A' y.2 ∧ AllOk y.2) rfl rfl (fun _ => rfl) rfl rfl rfl (fun _ w1 hp1 hI1 hR => (Allows_ok hR ok4 0 0 0 k nm a b e r hgood.2.1 hgood.2.2.1 hr64).mono fun e' w' ⟨y, he', hs', hf'⟩ => by rw [ax1] at he' hs'; exact ⟨y, he', ⟨ax2 _ hs'.1, hs'.2⟩, hf'⟩) ?_
      rintro ⟨mb5, A5⟩ ⟨hs5, ok5⟩
      dsimp only at hs5 ok5
      (refine st rfl ?_; conv => arg 3; whnf)
      (repeat (first | (refine n_must rfl ?_; (refine st rfl ?_; conv => arg 3; whnf)) | (refine n_chk (drawF_ok (by decide +kernel)) ?_; (refine st rfl ?_; conv => arg 3; whnf)) | (refine n_same rfl ?_; (refine st rfl ?_; conv => arg 3; whnf)) | (refine n_brT ?_ ?_; (focus (simp <;> fail)); (refine st rfl ?_; conv => arg 3; whnf)) | (refine n_brF ?_ ?_; (focus (simp <;> fail)); (refine st rfl ?_; conv => arg 3; whnf))))
      refine n_brF (by by_cases h : e = 1 <;> simp [h]) ?_
      (refine st rfl ?_; conv => arg 3; whnf)
      (repeat (first | (refine n_must rfl ?_; (refine st rfl ?_; conv => arg 3; whnf)) | (refine n_chk (drawF_ok (by decide +kernel)) ?_; (refine st rfl ?_; conv => arg 3; whnf)) | (refine n_same rfl ?_; (refine st rfl ?_; conv => arg 3; whnf)) | (refine n_must ?_ ?_; (focus (first | (simp; done) | (simp; omega))); (refine st rfl ?_; conv => arg 3; whnf)) | (refine n_brT ?_ ?_; (focus (first | (simp; done) | (simp; omega))); (refine st rfl ?_; conv => arg 3; whnf)) | (refine n_brF ?_ ?_; (focus (first | (simp; done) | (simp; omega))); (refine st rfl ?_; conv => arg 3; whnf))))
      refine n_callN (fun y : Option Addr × Nat => rowRes 39 4 y.1 m y.2 (looksC (looksOf A5 Ns))) 39 (fun y => .raw (.slice y.1 m y.2)) (fun y => .slice y.1 m y.2) (fun y => 0 < m → ∃ g, y.1 = some ⟨g, 0, none⟩) rfl rfl rfl (fun _ => rfl) (fun w1 hI1 => (looked_ok (hI1.res 3 rfl rfl) (hI1.res 1 rfl rfl) (hI1.resLt 1 rfl rfl) (hI1.res_res 3 1 (by decide) rfl rfl rfl rfl) hnl hm3 hns).mono fun e w' ⟨y, he, _, hf⟩ => ⟨y, he, fun h0 => rowRes_some hf.2.1 h0, hf⟩) ?_
      rintro ⟨ow5, cw5⟩ how5 hnw5
      dsimp only at how5
      obtain ⟨gw5, rfl⟩ := how5 (by omega)
      (refine st rfl ?_; conv => arg 3; whnf)
      (repeat (first | (refine n_must rfl ?_; (refine st rfl ?_; conv => arg 3; whnf)) | (refine n_chk (drawF_ok (by decide +kernel)) ?_; (refine st rfl ?_; conv => arg 3; whnf)) | (refine n_same rfl ?_; (refine st rfl ?_; conv => arg 3; whnf)) | (refine n_must ?_ ?_; (focus (first | (simp; done) | (simp; omega))); (refine st rfl ?_; conv => arg 3; whnf)) | (refine n_brT ?_ ?_; (focus (first | (simp; done) | (simp; omega))); (refine st rfl ?_; conv => arg 3; whnf)) | (refine n_brF ?_ ?_; (focus (first | (simp; done) | (simp; omega))); (refine st rfl ?_; conv => arg 3; whnf))))
      refine n_callN (fun y : Option Addr × Nat => rowRes 39 4 y.1 m y.2 (looksC (looksOf A' Ns))) 39 (fun y => .raw (.slice y.1 m y.2)) (fun y => .slice y.1 m y.2) (fun y => 0 < m → ∃ g, y.1 = some ⟨g, 0, none⟩) rfl rfl rfl (fun _ => rfl) (fun w1 hI1 => (looked_ok (hI1.res 0 rfl rfl) (hI1.res 1 rfl rfl) (hI1.resLt 1 rfl rfl) (hI1.res_res 0 1 (by decide) rfl rfl rfl rfl) hnl hm3 hns).mono fun e w' ⟨y, he, _, hf⟩ => ⟨y, he, fun h0 => rowRes_some hf.2.1 h0, hf⟩) ?_
      rintro ⟨ow6, cw6⟩ how6 hnw6
      dsimp only at how6
      obtain ⟨gw6, rfl⟩ := how6 (by omega)
      (refine st rfl ?_; conv => arg 3; whnf)
      (repeat (first | (refine n_must rfl ?_; (refine st rfl ?_; conv => arg 3; whnf)) | (refine n_chk (drawF_ok (by decide +kernel)) ?_; (refine st rfl ?_; conv => arg 3; whnf)) | (refine n_same rfl ?_; (refine st rfl ?_; conv => arg 3; whnf)) | (refine n_must ?_ ?_; (focus (first | (simp; done) | (simp; omega))); (refine st rfl ?_; conv => arg 3; whnf)) | (refine n_brT ?_ ?_; (focus (first | (simp; done) | (simp; omega))); (refine st rfl ?_; conv => arg 3; whnf)) | (refine n_brF ?_ ?_; (focus (first | (simp; done) | (simp; omega))); (refine st rfl ?_; conv => arg 3; whnf))))
      refine n_sameP (.bool true) rfl rfl rfl (fun _ w1 hp1 hI1 => same_at (n := m) (looksOf_like hs5 Ns).symm (by simp [looksOf, hnl]) hm3 (hI1.res 9 rfl rfl) (hI1.res 10 rfl rfl) (hI1.resLt 9 rfl rfl) (hI1.resLt 10 rfl rfl) (hI1.res_res 9 10 (by decide) rfl rfl rfl rfl)) ?_; (refine st rfl ?_; conv => arg 3; whnf)
      (repeat (first | (refine n_must rfl ?_; (refine st rfl ?_; conv => arg 3; whnf)) | (refine n_chk (drawF_ok (by decide +kernel)) ?_; (refine st rfl ?_; conv => arg 3; whnf)) | (refine n_same rfl ?_; (refine st rfl ?_; conv => arg 3; whnf)) | (refine n_must ?_ ?_; (focus (first | (simp; done) | (simp; omega))); (refine st rfl ?_; conv => arg 3; whnf)) | (refine n_brT ?_ ?_; (focus (first | (simp; done) | (simp; omega))); (refine st rfl ?_; conv => arg 3; whnf)) | (refine n_brF ?_ ?_; (focus (first | (simp; done) | (simp; omega))); (refine st rfl ?_; conv => arg 3; whnf))))
      exact n_again ⟨(i + 1, A'), ⟨by dsimp only; omega, dok⟩, by dsimp only; omega, (by (repeat (first | exact trivial | refine ⟨⟨rfl, rfl⟩, ?_⟩ | refine ⟨⟨rfl, congrArg (SV.int .i64) ei⟩, ?_⟩))), ⟨_, rfl⟩⟩
    · replace hk : k = 4 := Classical.not_not.1 hk
      (repeat (first | (refine n_must rfl ?_; (refine st rfl ?_; conv => arg 3; whnf)) | (refine n_chk (drawF_ok (by decide +kernel)) ?_; (refine st rfl ?_; conv => arg 3; whnf)) | (refine n_same rfl ?_; (refine st rfl ?_; conv => arg 3; whnf)) | (refine n_must ?_ ?_; (focus (first | (simp [hk]; done) | (simp [hk]; omega) | (simp only [hk]; simp; done))); (refine st rfl ?_; conv => arg 3; whnf)) | (refine n_brT ?_ ?_; (focus (first | (simp [hk]; done) | (simp [hk]; omega) | (simp only [hk]; simp; done))); (refine st rfl ?_; conv => arg 3; whnf)) | (refine n_brF ?_ ?_; (focus (first | (simp [hk]; done) | (simp [hk]; omega) | (simp only [hk]; simp; done))); (refine st rfl ?_; conv => arg 3; whnf))))
      have az := allow_z (k := k) (nm := nm) (b := b) hsame ok hgood.2.2.1 hgood.2.2.2.2 bO _ r e hr.symm he.symm rfl
      refine n_callR (Y := Nat × All) 3 (fun y => mapRes p2 y.1 y.2) (fun _ => .bool false) (fun _ => .bool false) (fun y => Same A2 y.2 ∧ AllOk y.2) rfl rfl (fun _ => rfl) rfl rfl rfl (fun _ w1 hp1 hI1 hR => (Allows_ok hR ok2 0 0 0 k nm a b _ r hgood.2.1 hgood.2.2.1 hr64).mono fun e' w' ⟨y, he', hs', hf'⟩ => by rw [az] at he' hs'; exact ⟨y, he', ⟨by simpa using hs'.1, hs'.2⟩, hf'⟩) ?_
      rintro ⟨mb4, A4⟩ ⟨hs4', ok4⟩
      dsimp only at hs4' ok4
      have hs4 : Same A A4 := Same.trans hsame hs4'
      (refine st rfl ?_; conv => arg 3; whnf)
      (repeat (first | (refine n_must rfl ?_; (refine st rfl ?_; conv => arg 3; whnf)) | (refine n_chk (drawF_ok (by decide +kernel)) ?_; (refine st rfl ?_; conv => arg 3; whnf)) | (refine n_same rfl ?_; (refine st rfl ?_; conv => arg 3; whnf)) | (refine n_must ?_ ?_; (focus (first | (simp; done) | (simp; omega))); (refine st rfl ?_; conv => arg 3; whnf)) | (refine n_brT ?_ ?_; (focus (first | (simp; done) | (simp; omega))); (refine st rfl ?_; conv => arg 3; whnf)) | (refine n_brF ?_ ?_; (focus (first | (simp; done) | (simp; omega))); (refine st rfl ?_; conv => arg 3; whnf))))
      refine n_call2 rfl fun yb zb => ?_
      refine n_callN (fun y : Option Addr × Nat => rowRes 39 4 y.1 m y.2 (looksC (looksOf A4 Ns))) 39 (fun y => .raw (.slice y.1 m y.2)) (fun y => .slice y.1 m y.2) (fun y => 0 < m → ∃ g, y.1 = some ⟨g, 0, none⟩) rfl rfl rfl (fun _ => rfl) (fun w1 hI1 => (looked_ok (hI1.res 3 rfl rfl) (hI1.res 1 rfl rfl) (hI1.resLt 1 rfl rfl) (hI1.res_res 3 1 (by decide) rfl rfl rfl rfl) hnl hm3 hns).mono fun e w' ⟨y, he, _, hf⟩ => ⟨y, he, fun h0 => rowRes_some hf.2.1 h0, hf⟩) ?_
      rintro ⟨ow4, cw4⟩ how4 hnw4
      dsimp only at how4
      obtain ⟨gw4, rfl⟩ := how4 (by omega)
      (refine st rfl ?_; conv => arg 3; whnf)
      (repeat (first | (refine n_must rfl ?_; (refine st rfl ?_; conv => arg 3; whnf)) | (refine n_chk (drawF_ok (by decide +kernel)) ?_; (refine st rfl ?_; conv => arg 3; whnf)) | (refine n_same rfl ?_; (refine st rfl ?_; conv => arg 3; whnf)) | (refine n_must ?_ ?_; (focus (first | (simp; done) | (simp; omega))); (refine st rfl ?_; conv => arg 3; whnf)) | (refine n_brT ?_ ?_; (focus (first | (simp; done) | (simp; omega))); (refine st rfl ?_; conv => arg 3; whnf)) | (refine n_brF ?_ ?_; (focus (first | (simp; done) | (simp; omega))); (refine st rfl ?_; conv => arg 3; whnf))))
      refine n_sameP (.bool true) rfl rfl rfl (fun _ w1 hp1 hI1 => same_at (n := m) ((looksOf_like hsame Ns).trans (looksOf_like hs4 Ns).symm) (by simp [looksOf, hnl]) hm3 (hI1.res 8 rfl rfl) (hI1.res 5 rfl rfl) (hI1.resLt 8 rfl rfl) (hI1.resLt 5 rfl rfl) (hI1.res_res 8 5 (by decide) rfl rfl rfl rfl)) ?_; (refine st rfl ?_; conv => arg 3; whnf)
      (repeat (first | (refine n_must rfl ?_; (refine st rfl ?_; conv => arg 3; whnf)) | (refine n_chk (drawF_ok (by decide +kernel)) ?_; (refine st rfl ?_; conv => arg 3; whnf)) | (refine n_same rfl ?_; (refine st rfl ?_; conv => arg 3; whnf)) | (refine n_must ?_ ?_; (focus (first | (simp; done) | (simp; omega))); (refine st rfl ?_; conv => arg 3; whnf)) | (refine n_brT ?_ ?_; (focus (first | (simp; done) | (simp; omega))); (refine st rfl ?_; conv => arg 3; whnf)) | (refine n_brF ?_ ?_; (focus (first | (simp; done) | (simp; omega))); (refine st rfl ?_; conv => arg 3; whnf))))
      obtain ⟨ax1, ax2⟩ := allow_x (hn := hn) (k := k) (nm := nm) (a := a) (b := b) (hh := hh) hs4 r e hr.symm he.symm
      rw [hA'] at ax2
      refine n_callR (Y := Nat × All) 3 (fun y => mapRes p2 y.1 y.2) (fun _ => .bool (decide (e ≠ 1))) (fun _ => .bool (decide (e ≠ 1))) (fun y => Same A' y.2 ∧ AllOk y.2) rfl rfl (fun _ => rfl) rfl rfl rfl (fun _ w1 hp1 hI1 hR => (Allows_ok hR ok4 0 0 0 k nm a b e r hgood.2.1 hgood.2.2.1 hr64).mono fun e' w' ⟨y, he', hs', hf'⟩ => by rw [ax1] at he' hs'; exact ⟨y, he', ⟨ax2 _ hs'.1, hs'.2⟩, hf'⟩) ?_
      rintro ⟨mb5, A5⟩ ⟨hs5, ok5⟩
      dsimp only at hs5 ok5
      (refine st rfl ?_; conv => arg 3; whnf)
      (repeat (first | (refine n_must rfl ?_; (refine st rfl ?_; conv => arg 3; whnf)) | (refine n_chk (drawF_ok (by decide +kernel)) ?_; (refine st rfl ?_; conv => arg 3; whnf)) | (refine n_same rfl ?_; (refine st rfl ?_; conv => arg 3; whnf)) | (refine n_brT ?_ ?_; (focus (simp <;> fail)); (refine st rfl ?_; conv => arg 3; whnf)) | (refine n_brF ?_ ?_; (focus (simp <;> fail)); (refine st rfl ?_; conv => arg 3; whnf))))
      refine n_brF (by by_cases h : e = 1 <;> simp [h]) ?_
      (refine st rfl ?_; conv => arg 3; whnf)
      (repeat (first | (refine n_must rfl ?_; (refine st rfl ?_; conv => arg 3; whnf)) | (refine n_chk (drawF_ok (by decide +kernel)) ?_; (refine st rfl ?_; conv => arg 3; whnf)) | (refine n_same rfl ?_; (refine st rfl ?_; conv => arg 3; whnf)) | (refine n_must ?_ ?_; (focus (first | (simp; done) | (simp; omega))); (refine st rfl ?_; conv => arg 3; whnf)) | (refine n_brT ?_ ?_; (focus (first | (simp; done) | (simp; omega))); (refine st rfl ?_; conv => arg 3; whnf)) | (refine n_brF ?_ ?_; (focus (first | (simp; done) | (simp; omega))); (refine st rfl ?_; conv => arg 3; whnf))))
      refine n_callN (fun y : Option Addr × Nat => rowRes 39 4 y.1 m y.2 (looksC (looksOf A5 Ns))) 39 (fun y => .raw (.slice y.1 m y.2)) (fun y => .slice y.1 m y.2) (fun y => 0 < m → ∃ g, y.1 = some ⟨g, 0, none⟩) rfl rfl rfl (fun _ => rfl) (fun w1 hI1 => (looked_ok (hI1.res 3 rfl rfl) (hI1.res 1 rfl rfl) (hI1.resLt 1 rfl rfl) (hI1.res_res 3 1 (by decide) rfl rfl rfl rfl) hnl hm3 hns).mono fun e w' ⟨y, he, _, hf⟩ => ⟨y, he, fun h0 => rowRes_some hf.2.1 h0, hf⟩) ?_
      rintro ⟨ow5, cw5⟩ how5 hnw5
      dsimp only at how5
      obtain ⟨gw5, rfl⟩ := how5 (by omega)
      (refine st rfl ?_; conv => arg 3; whnf)
      (repeat (first | (refine n_must rfl ?_; (refine st rfl ?_; conv => arg 3; whnf)) | (refine n_chk (drawF_ok (by decide +kernel)) ?_; (refine st rfl ?_; conv => arg 3; whnf)) | (refine n_same rfl ?_; (refine st rfl ?_; conv => arg 3; whnf)) | (refine n_must ?_ ?_; (focus (first | (simp; done) | (simp; omega))); (refine st rfl ?_; conv => arg 3; whnf)) | (refine n_brT ?_ ?_; (focus (first | (simp; done) | (simp; omega))); (refine st rfl ?_; conv => arg 3; whnf)) | (refine n_brF ?_ ?_; (focus (first | (simp; done) | (simp; omega))); (refine st rfl ?_; conv => arg 3; whnf))))
      refine n_callN (fun y : Option Addr × Nat => rowRes 39 4 y.1 m y.2 (looksC (looksOf A' Ns))) 39 (fun y => .raw (.slice y.1 m y.2)) (fun y => .slice y.1 m y.2) (fun y => 0 < m → ∃ g, y.1 = some ⟨g, 0, none⟩) rfl rfl rfl (fun _ => rfl) (fun w1 hI1 => (looked_ok (hI1.res 0 rfl rfl) (hI1.res 1 rfl rfl) (hI1.resLt 1 rfl rfl) (hI1.res_res 0 1 (by decide) rfl rfl rfl rfl) hnl hm3 hns).mono fun e w' ⟨y, he, _, hf⟩ => ⟨y, he, fun h0 => rowRes_some hf.2.1 h0, hf⟩) ?_
      rintro ⟨ow6, cw6⟩ how6 hnw6
      dsimp only at how6
      obtain ⟨gw6, rfl⟩ := how6 (by omega)
      (refine st rfl ?_; conv => arg 3; whnf)
      (repeat (first | (refine n_must rfl ?_; (refine st rfl ?_; conv => arg 3; whnf)) | (refine n_chk (drawF_ok (by decide +kernel)) ?_; (refine st rfl ?_; conv => arg 3; whnf)) | (refine n_same rfl ?_; (refine st rfl ?_; conv => arg 3; whnf)) | (refine n_must ?_ ?_; (focus (first | (simp; done) | (simp; omega))); (refine st rfl ?_; conv => arg 3; whnf)) | (refine n_brT ?_ ?_; (focus (first | (simp; done) | (simp; omega))); (refine st rfl ?_; conv => arg 3; whnf)) | (refine n_brF ?_ ?_; (focus (first | (simp; done) | (simp; omega))); (refine st rfl ?_; conv => arg 3; whnf))))
      refine n_sameP (.bool true) rfl rfl rfl (fun _ w1 hp1 hI1 => same_at (n := m) (looksOf_like hs5 Ns).symm (by simp [looksOf, hnl]) hm3 (hI1.res 9 rfl rfl) (hI1.res 10 rfl rfl) (hI1.resLt 9 rfl rfl) (hI1.resLt 10 rfl rfl) (hI1.res_res 9 10 (by decide) rfl rfl rfl rfl)) ?_; (refine st rfl ?_; conv => arg 3; whnf)
      (repeat (first | (refine n_must rfl ?_; (refine st rfl ?_; conv => arg 3; whnf)) | (refine n_chk (drawF_ok (by decide +kernel)) ?_; (refine st rfl ?_; conv => arg 3; whnf)) | (refine n_same rfl ?_; (refine st rfl ?_; conv => arg 3; whnf)) | (refine n_must ?_ ?_; (focus (first | (simp; done) | (simp; omega))); (refine st rfl ?_; conv => arg 3; whnf)) | (refine n_brT ?_ ?_; (focus (first | (simp; done) | (simp; omega))); (refine st rfl ?_; conv => arg 3; whnf)) | (refine n_brF ?_ ?_; (focus (first | (simp; done) | (simp; omega))); (refine st rfl ?_; conv => arg 3; whnf))))
      exact n_again ⟨(i + 1, A'), ⟨by dsimp only; omega, dok⟩, by dsimp only; omega, (by (repeat (first | exact trivial | refine ⟨⟨rfl, rfl⟩, ?_⟩ | refine ⟨⟨rfl, congrArg (SV.int .i64) ei⟩, ?_⟩))), ⟨_, rfl⟩⟩
  · have him : i = m6 := by omega
    (repeat' (first | (refine n_must rfl ?_; (refine st rfl ?_; conv => arg 3; whnf)) | (refine n_chk (drawF_ok (by decide +kernel)) ?_; (refine st rfl ?_; conv => arg 3; whnf)) | (refine n_same rfl ?_; (refine st rfl ?_; conv => arg 3; whnf)) | (refine n_must ?_ ?_; (focus (first | (simp; done) | (simp; omega))); (refine st rfl ?_; conv => arg 3; whnf)) | (refine n_brT ?_ ?_; (focus (first | (simp; done) | (simp; omega))); (refine st rfl ?_; conv => arg 3; whnf)) | (refine n_brF ?_ ?_; (focus (first | (simp; done) | (simp; omega))); (refine st rfl ?_; conv => arg 3; whnf)) | (refine n_br (fun hbr => ?_) (fun hbr => ?_) <;> simp at hbr <;> (refine st rfl ?_; conv => arg 3; whnf))))
    all_goals try (exfalso; omega)
    all_goals (refine n_exit rfl ?_; (refine st rfl ?_; conv => arg 3; whnf); (repeat (first | (refine n_must rfl ?_; (refine st rfl ?_; conv => arg 3; whnf)) | (refine n_chk (drawF_ok (by decide +kernel)) ?_; (refine st rfl ?_; conv => arg 3; whnf)) | (refine n_same rfl ?_; (refine st rfl ?_; conv => arg 3; whnf)) | (refine n_brT ?_ ?_; (focus (simp <;> fail)); (refine st rfl ?_; conv => arg 3; whnf)) | (refine n_brF ?_ ?_; (focus (simp <;> fail)); (refine st rfl ?_; conv => arg 3; whnf)))))
    all_goals exact n_ret0 rfl rfl fun ids' w' hp hI' => ⟨rfl, hI'.frm⟩
end Go.Proofs.Yteapjjkgbnnipaa
