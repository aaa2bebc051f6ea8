/- The law LedgerTurns of chapter 6 is true of the program: over every script, every Dec, Inc, Lock, Free, Burn and In as the document says: the call returns true, and the arguments read as before. Condition: the three listed package-level errors hold what the program's text lays (tied by the card). -/
import Derived.Test.YthinmbcedgoglaaDoorScr
import Derived.Test.YthinmbcedgoglaaDoorTie
import Derived.Test.YthinmbcedgoglaaDoorCards
set_option maxRecDepth 100000
namespace Go.Proofs.YthinmbcedgoglaaDoor
open Go.ChangeShapes Go.WideShapes Go.RowKit

theorem LedgerTurns_lifted (os : Os) (started : os.Started) (H : Type) (enc : TypeId × Value → H) :
    ReturnsInHanded {} Tryd.checked os 5 .any (fun w args => (Rows.ledgerTurnsSpec.pre enc Tryd.prog Tryd.f5 [] false w args ∧ laidMetH Tryd.prog laidL w) ∧ sizedMet enc Tryd.prog Tryd.f5 (OpenSpec.ofChange Rows.ledgerTurnsSpec) false w args)
      (Rows.ledgerTurnsSpec.post enc Tryd.prog Tryd.f5 false true false false) := by
  refine law_lifted (C := Tryd.checked) (X := fun w _ => laidMetH Tryd.prog laidL w) (tb := 4) (fun _ _ _ hh h => h.of_heap hh) own started (by kernel_rfl) Tryd.func5
    (World.doorLaid Tryd.prog 400 os) #[.int .i64 0, .int .i64 0, .slice none 0 0] 8 rfl (World.shaped_of_RefB (by kernel_rfl) (by kernel_rfl)) (by kernel_rfl) (by kernel_rfl) (by kernel_rfl) (door_met os _)
    (by kernel_rfl) (by kernel_rfl) (by kernel_rfl) Tryd.underlying4 rfl (fun ds h => ?_) (fun W base args ds p hval0 hA0 hwt hL => ?_)
  · match ds, h with
    | [_, _, _], _ => rfl
  · have hval : ∀ (j : Nat) t v, Tryd.f5.params[j]? = some t → args[j]? = some v → Value.okWide Tryd.prog W .any base t v := hval0
    have hA : DataW.TrodAll enc Tryd.prog W 0 (fun _ => true) true Tryd.f5.params.toList args.toList ds p := hA0
    rw [Tryd.params5] at hA hval
    obtain ⟨v0, v1, v2, d0, d1, d2, p0, p1, p2, rfl, rfl, rfl, h0, h1, h2⟩ := trodAll_three hA
    obtain ⟨x, rfl, rfl, rfl, wx⟩ := open_int Tryd.underlying3 (hval 0 _ v0 rfl rfl) h0
    obtain ⟨y, rfl, rfl, rfl, wy⟩ := open_int Tryd.underlying3 (hval 1 _ v1 rfl rfl) h1
    obtain ⟨o, n, cap, k, who, a, b, rfl, hsc, _⟩ := open_script (hval 2 _ v2 rfl rfl) h2
    obtain ⟨a0, a1, a2, hs⟩ := sents_of_laid hL
    exact LedgerTurns_ok hs (Nat.le_refl _) x y hsc

theorem LedgerTurns_said : Rows.LedgerTurnsSaid :=
  OpenClaim.holds_of_wide 5 Tryd.f5 rfl rfl rfl rfl rfl rfl rfl ⟨rfl, rfl, rfl, rfl, rfl⟩ rfl rfl rfl rfl rfl (by kernel_rfl) Tryd.func5 (by kernel_rfl)
    (of_decide_eq_true (by kernel_rfl)) (by unfold Func.isWrapper; rw [if_neg (by decide +kernel)]; exact ⟨rfl, rfl⟩)
    (fun os started H enc _ => LedgerTurns_lifted os started H enc)

theorem LedgerTurns_holds : Rows.LedgerTurnsCardSaid :=
  Claim7.holds_tied_plain_at .later [] [.sentinel, .sentinel, .sentinel] true _ true
    LedgerTurns_said (fun _ h => by cases h) (by kernel_rfl) (fun _ h => by cases h) ledgerTurns_row_tie rfl ⟨rfl, rfl⟩ (by kernel_rfl) rfl
    (fun f fn hf hfn => by
      obtain rfl : f = 5 := Option.some.inj ((show Tryd.prog.funcNamed "sluice/sluicelaw6.LedgerTurns" = some 5 by kernel_rfl).symm.trans hf) |>.symm
      obtain rfl : fn = Tryd.f5 := (Option.some.inj (Tryd.func5.symm.trans hfn)).symm
      exact ⟨by kernel_rfl, fun j t ht => by
        have hm : t ∈ Tryd.f5.params.toList := by simpa using Array.mem_of_getElem? ht
        have hall : (Tryd.f5.params.toList.all fun u => !Tryd.prog.wantsStandIn u) = true := by kernel_rfl
        exact (show Tryd.prog.wantsStandIn t = false by simpa using List.all_eq_true.1 hall t hm)⟩)
    (by kernel_rfl)
#print axioms LedgerTurns_holds
end Go.Proofs.YthinmbcedgoglaaDoor
