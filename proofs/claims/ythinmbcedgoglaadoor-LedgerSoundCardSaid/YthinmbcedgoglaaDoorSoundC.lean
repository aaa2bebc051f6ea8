/- The law LedgerSound of chapter 6 is true of the program: over every script no number is below 0, the sum is never above the cap, an error changes nothing, and each call changes the sum by what it says: the call returns true, and the arguments read as before. Condition: the three listed package-level errors hold what the program's text lays (tied by the card). -/
import Derived.Test.YthinmbcedgoglaaDoorScr
import Derived.Test.YthinmbcedgoglaaDoorSound
import Derived.Test.YthinmbcedgoglaaDoorTie
import Derived.Test.YthinmbcedgoglaaDoorCards
set_option maxRecDepth 100000
namespace Go.Proofs.YthinmbcedgoglaaDoor
open Go.ChangeShapes Go.WideShapes Go.RowKit

theorem LedgerSound_lifted (os : Os) (started : os.Started) (H : Type) (enc : TypeId × Value → H) :
    ReturnsInHanded {} Tryd.checked os 9 .any (fun w args => (Rows.ledgerSoundSpec.pre enc Tryd.prog Tryd.f9 [] false w args ∧ laidMetH Tryd.prog laidL w) ∧ sizedMet enc Tryd.prog Tryd.f9 (OpenSpec.ofChange Rows.ledgerSoundSpec) false w args)
      (Rows.ledgerSoundSpec.post enc Tryd.prog Tryd.f9 false true false false) := by
  refine law_lifted (C := Tryd.checked) (X := fun w _ => laidMetH Tryd.prog laidL w) (tb := 4) (fun _ _ _ hh h => h.of_heap hh) own started (by kernel_rfl) Tryd.func9
    (World.doorLaid Tryd.prog 400 os) #[.int .i64 0, .slice none 0 0] 8 rfl (World.shaped_of_RefB (by kernel_rfl) (by kernel_rfl)) (by kernel_rfl) (by kernel_rfl) (by kernel_rfl) (door_met os _)
    (by kernel_rfl) (by kernel_rfl) (by kernel_rfl) Tryd.underlying4 rfl (fun ds h => ?_) (fun W base args ds p hval0 hA0 hwt hL => ?_)
  · match ds, h with
    | [_, _], _ => rfl
  · have hval : ∀ (j : Nat) t v, Tryd.f9.params[j]? = some t → args[j]? = some v → Value.okWide Tryd.prog W .any base t v := hval0
    have hA : DataW.TrodAll enc Tryd.prog W 0 (fun _ => true) true Tryd.f9.params.toList args.toList ds p := hA0
    rw [Tryd.params9] at hA hval
    obtain ⟨v0, v1, d0, d1, p0, p1, rfl, rfl, rfl, h0, h1⟩ := trodAll_two hA
    obtain ⟨x, rfl, rfl, rfl, wx⟩ := open_int Tryd.underlying3 (hval 0 _ v0 rfl rfl) h0
    obtain ⟨o, n, cap, k, who, a, b, rfl, hsc, _⟩ := open_script (hval 1 _ v1 rfl rfl) h1
    obtain ⟨a0, a1, a2, hs⟩ := sents_of_laid hL
    exact LedgerSound_ok hs (Nat.le_refl _) x (wf_i64 wx) hsc

theorem LedgerSound_said : Rows.LedgerSoundSaid :=
  OpenClaim.holds_of_wide 9 Tryd.f9 rfl rfl rfl rfl rfl rfl rfl ⟨rfl, rfl, rfl, rfl, rfl⟩ rfl rfl rfl rfl rfl (by kernel_rfl) Tryd.func9 (by kernel_rfl)
    (of_decide_eq_true (by kernel_rfl)) (by unfold Func.isWrapper; rw [if_neg (by decide +kernel)]; exact ⟨rfl, rfl⟩)
    (fun os started H enc _ => LedgerSound_lifted os started H enc)

theorem LedgerSound_holds : Rows.LedgerSoundCardSaid :=
  Claim7.holds_tied_plain_at .later [] [.sentinel, .sentinel, .sentinel] true _ true
    LedgerSound_said (fun _ h => by cases h) (by kernel_rfl) (fun _ h => by cases h) ledgerSound_row_tie rfl ⟨rfl, rfl⟩ (by kernel_rfl) rfl
    (fun f fn hf hfn => by
      obtain rfl : f = 9 := Option.some.inj ((show Tryd.prog.funcNamed "sluice/sluicelaw6.LedgerSound" = some 9 by kernel_rfl).symm.trans hf) |>.symm
      obtain rfl : fn = Tryd.f9 := (Option.some.inj (Tryd.func9.symm.trans hfn)).symm
      exact ⟨by kernel_rfl, fun j t ht => by
        have hm : t ∈ Tryd.f9.params.toList := by simpa using Array.mem_of_getElem? ht
        have hall : (Tryd.f9.params.toList.all fun u => !Tryd.prog.wantsStandIn u) = true := by kernel_rfl
        exact (show Tryd.prog.wantsStandIn t = false by simpa using List.all_eq_true.1 hall t hm)⟩)
    (by kernel_rfl)
#print axioms LedgerSound_holds
end Go.Proofs.YthinmbcedgoglaaDoor
