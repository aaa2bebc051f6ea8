/- Chapter 16's law: AtomHolds: the plain law. -/
import Derived.Test.YteapjjkgbnnipaaAtK
set_option maxRecDepth 100000
set_option linter.unusedSimpArgs false
set_option linter.unusedVariables false
set_option maxHeartbeats 4000000
namespace Go.Proofs.Yteapjjkgbnnipaa
open Go.RowKit

/-- The hold nb of am is there. -/
def Has (A : All) (nb am : Int) : Prop := ∃ s, mget A kK = some s ∧ mget s.holds nb = some am
theorem actF_keeps {s : Ctr} {nb am : Int} (hs : mget s.holds nb = some am) {k a b h : Int} (hk : ¬ ((k = 5 ∨ k = 6 ∨ k = 12) ∧ a = nb)) : mget (actF s k a b h).1.holds nb = some am := by
  have hend : ∀ q, a ≠ nb → mget (s.end_ q a).1.holds nb = some am := by
    intro q hne
    unfold Ctr.end_
    split
    · exact hs
    · dsimp only; rw [mget_put, if_neg hne]; exact hs
  have hinc : ∀ z, mget (s.inc z).1.holds nb = some am := fun z => by rw [(inc_hb s z).2]; exact hs
  unfold actF
  split
  · exact hinc _
  · split
    · exact hinc _
    · split
      · unfold Ctr.hold
        split
        · exact hs
        · split
          · exact hs
          · rename_i hn
            split
            · exact hs
            · dsimp only
              rw [mget_put, if_neg fun e => ?_]
              · exact hs
              · rw [e, hs] at hn; simp at hn
      · split
        · rename_i h5; exact hend _ fun e => hk ⟨by simp [h5], e⟩
        · split
          · rename_i h6; exact hend _ fun e => hk ⟨by simp [h6], e⟩
          · split
            · rename_i h12; exact hend _ fun e => hk ⟨by simp [h12], e⟩
            · split
              · rw [(take_hb s a b).2]; exact hs
              · split
                · rw [(reset_hb s a).2]; exact hs
                · split
                  · rw [(recap_hb s a).2]; exact hs
                  · exact hs
theorem doF_keeps {A : All} {nb am : Int} (hA : Has A nb am) {hn : Nat} {k : Int} {nm : ByteArray} {a b h : Int} (hk : ¬ ((k = 5 ∨ k = 6 ∨ k = 12) ∧ a = nb)) : Has (doF A hn k nm a b h).1 nb am := by
  obtain ⟨s, h1, h2⟩ := hA
  unfold doF
  split
  · exact ⟨s, h1, h2⟩
  · split
    · rename_i hm
      split
      · split
        · exact ⟨s, h1, h2⟩
        · refine ⟨s, ?_, h2⟩
          dsimp only
          rw [mget_put, if_neg fun e => ?_]
          · exact h1
          · rw [e, h1] at hm; cases hm
      · exact ⟨s, h1, h2⟩
    · rename_i s' hm
      split
      · exact ⟨s, h1, h2⟩
      · dsimp only
        by_cases e : nm = kK
        · subst e
          rw [h1] at hm
          simp at hm; subst hm
          exact ⟨_, by rw [mget_put, if_pos rfl], actF_keeps h2 hk⟩
        · exact ⟨s, by rw [mget_put, if_neg e]; exact h1, h2⟩

theorem holds_begin {L V M nb : Int} (hL : 1 ≤ L ∧ L ≤ 1099511627776) (hV : 1 ≤ V ∧ V ≤ L) (hM : 1 ≤ M ∧ M ≤ V) (hN : 1 ≤ nb) :
    (∀ hn, doF [] hn 1 kK L V 0 = ([(kK, ⟨L, V, 0, hn, []⟩)], 0, 0)) ∧ ∀ h0 hn, doF [(kK, ⟨L, V, 0, h0, []⟩)] hn 4 kK M 1 nb = ([(kK, ⟨L, V - M, M, h0, [(nb, M)]⟩)], nb, 0) := by
  have e1 : amountB L = true := by simp [amountB]; omega
  have e2 : amountB M = true := by simp [amountB]; omega
  have e3 : amountB 1 = true := by decide
  constructor
  · intro hn
    have : ¬ L < V := by omega
    have h0 : 0 ≤ V := by omega
    have h1 : V ≤ 1099511627776 := by omega
    simp [doF, rightB, e1, named_k, mget, mput, this, h0, h1]
  · intro h0 hn
    have g1 : ¬ V < M := by omega
    have g2 : ¬ nb < 1 := by omega
    simp [doF, rightB, e2, e3, named_k, mget, mput, actF, Ctr.hold, g1, g2]

/-- The hold ends. -/
theorem holds_end {A : All} {nb am k : Int} {s : Ctr} (h1 : mget A kK = some s) (h2 : mget s.holds nb = some am) (ham : 1 ≤ am) (hnb : 1 ≤ nb) (hk : k = 5 ∨ k = 6 ∨ k = 12) :
    (∀ hn, doF A hn k kK nb 0 0 = (mput A kK (s.end_ k nb).1, if k = 12 then 0 else am, 0)) ∧ (s.end_ k nb).1.held = s.held - am ∧ (s.end_ k nb).1.value = s.value + (if k = 5 then 0 else am) ∧ (s.end_ k nb).1.holds = mput s.holds nb 0 := by
  have hr : rightB k kK nb 0 = true := by rcases hk with rfl | rfl | rfl <;> simp [rightB, named_k, hnb]
  have hh : s.had nb = am := by unfold Ctr.had; rw [h2]; rfl
  have ha : actF s k nb 0 0 = s.end_ k nb := by rcases hk with rfl | rfl | rfl <;> simp [actF]
  have hk1 : k ≠ 1 := by rcases hk with rfl | rfl | rfl <;> decide
  refine ⟨fun hn => ?_, ?_, ?_, ?_⟩
  · simp only [doF, hr, h1, if_neg hk1, ha, Bool.true_eq_false, if_false]
    unfold Ctr.end_
    rw [hh, if_neg (by omega)]
  all_goals unfold Ctr.end_
  all_goals rw [hh, if_neg (by omega)]
  dsimp only
  split <;> simp
theorem holds_over {A : All} {nb k : Int} {s : Ctr} (h1 : mget A kK = some s) (h2 : mget s.holds nb = some 0) (hnb : 1 ≤ nb) (hk : k = 5 ∨ k = 6 ∨ k = 12) (hn : Nat) : doF A hn k kK nb 0 0 = (A, 0, 70) := by
  have hr : rightB k kK nb 0 = true := by rcases hk with rfl | rfl | rfl <;> simp [rightB, named_k, hnb]
  have hh : s.had nb = 0 := by unfold Ctr.had; rw [h2]; rfl
  have ha : actF s k nb 0 0 = s.end_ k nb := by rcases hk with rfl | rfl | rfl <;> simp [actF]
  have hk1 : k ≠ 1 := by rcases hk with rfl | rfl | rfl <;> decide
  simp only [doF, hr, h1, if_neg hk1, ha, Bool.true_eq_false, if_false]
  unfold Ctr.end_
  rw [hh, if_pos rfl]
  simp only [mput_self h1]
theorem holds_used {A : All} {nb : Int} {s : Ctr} (h1 : mget A kK = some s) (h2 : mget s.holds nb = some 0) (hnb : 1 ≤ nb) (hn : Nat) : doF A hn 4 kK 1 1 nb = (A, 0, if s.value < 1 then 60 else 1) := by
  have e3 : amountB 1 = true := by decide
  have hr : rightB 4 kK 1 1 = true := by simp [rightB, named_k, e3]
  simp only [doF, hr, h1, Bool.true_eq_false, if_false, show ¬ ((4 : Int) = 1) by decide, actF, show ¬ ((4 : Int) = 2) by decide, show ¬ ((4 : Int) = 3) by decide, if_true]
  unfold Ctr.hold
  by_cases hv : s.value < 1
  · rw [if_pos hv, if_pos hv]; simp only [mput_self h1]
  · rw [if_neg hv, if_neg hv, h2]; simp only [Option.isSome_some, if_true, mput_self h1]
theorem peek_k {A : All} {s : Ctr} (h1 : mget A kK = some s) : peekV A kK = .tuple #[.int .i64 s.value, .int .i64 s.held, .int .i64 s.limit, .bool true] := by simp [peekV, h1]

theorem sign_ok (k : Int) (w : World) : Calls Try.prog 19 #[.int .i64 k] w fun e w' => e = .returned (.int .i64 (if k = 5 then 0 else 1)) ∧ Frm [] w w' := by
  have hI := Inv.nil (P := Try.prog) (N := 5) (S := []) (os := []) w
  refine calls_sm (cx 5 [] [] w) (vals := [.int .i64 k]) mixed Try.func19 rfl rfl rfl hI rfl (st rfl ?_); conv => arg 3; whnf
  (repeat (first | (refine n_must rfl ?_; (refine st rfl ?_; conv => arg 3; whnf)) | (refine n_chk (drawF_ok (by decide +kernel)) ?_; (refine st rfl ?_; conv => arg 3; whnf)) | (refine n_same rfl ?_; (refine st rfl ?_; conv => arg 3; whnf)) | (refine n_brT ?_ ?_; (focus (simp <;> fail)); (refine st rfl ?_; conv => arg 3; whnf)) | (refine n_brF ?_ ?_; (focus (simp <;> fail)); (refine st rfl ?_; conv => arg 3; whnf))))
  refine n_br (fun h1 => ?_) (fun h1 => ?_) <;> simp at h1 <;> (refine st rfl ?_; conv => arg 3; whnf)
  · (repeat (first | (refine n_must rfl ?_; (refine st rfl ?_; conv => arg 3; whnf)) | (refine n_chk (drawF_ok (by decide +kernel)) ?_; (refine st rfl ?_; conv => arg 3; whnf)) | (refine n_same rfl ?_; (refine st rfl ?_; conv => arg 3; whnf)) | (refine n_brT ?_ ?_; (focus (simp <;> fail)); (refine st rfl ?_; conv => arg 3; whnf)) | (refine n_brF ?_ ?_; (focus (simp <;> fail)); (refine st rfl ?_; conv => arg 3; whnf))))
    rw [if_pos h1]
    exact n_ret0 rfl rfl fun ids' w' hp hI' => ⟨rfl, hI'.frm⟩
  · (repeat (first | (refine n_must rfl ?_; (refine st rfl ?_; conv => arg 3; whnf)) | (refine n_chk (drawF_ok (by decide +kernel)) ?_; (refine st rfl ?_; conv => arg 3; whnf)) | (refine n_same rfl ?_; (refine st rfl ?_; conv => arg 3; whnf)) | (refine n_brT ?_ ?_; (focus (simp <;> fail)); (refine st rfl ?_; conv => arg 3; whnf)) | (refine n_brF ?_ ?_; (focus (simp <;> fail)); (refine st rfl ?_; conv => arg 3; whnf))))
    rw [if_neg h1]
    exact n_ret0 rfl rfl fun ids' w' hp hI' => ⟨rfl, hI'.frm⟩
end Go.Proofs.Yteapjjkgbnnipaa
