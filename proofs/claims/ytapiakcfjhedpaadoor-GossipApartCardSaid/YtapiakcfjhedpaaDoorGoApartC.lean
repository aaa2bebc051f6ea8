/- The law GossipApart of chapter 12 is true of the program: over every script and every two numbers the call returns true, and the arguments read as before. Condition: the three listed package-level errors hold what the program's text lays (tied by the card). -/
import Derived.Test.YtapiakcfjhedpaaDoorGoScr
import Derived.Test.YtapiakcfjhedpaaDoorGoT
import Derived.Test.YtapiakcfjhedpaaDoorTie
import Derived.Test.YtapiakcfjhedpaaDoorCards
set_option maxRecDepth 100000
namespace Go.Proofs.YtapiakcfjhedpaaDoor
open Go.ChangeShapes Go.WideShapes Go.RowKit

theorem GossipApart_lifted (os : Os) (started : os.Started) (H : Type) (enc : TypeId × Value → H) :
    ReturnsInHanded {} Tryd.checked os 6 .any (fun w args => (Rows.gossipApartSpec.pre enc Tryd.prog Tryd.f6 [] false w args ∧ laidMetH Tryd.prog laidL w) ∧ sizedMet enc Tryd.prog Tryd.f6 (OpenSpec.ofChange Rows.gossipApartSpec) false w args)
      (Rows.gossipApartSpec.post enc Tryd.prog Tryd.f6 false true false false) := by
  refine law_lifted (C := Tryd.checked) (X := fun w _ => laidMetH Tryd.prog laidL w) (tb := 4) (fun _ _ _ hh h => h.of_heap hh) own started (by kernel_rfl) Tryd.func6
    (World.doorLaid Tryd.prog 400 os) #[.int .i64 0, .int .i64 0, .slice none 0 0] 8 rfl (World.shaped_of_RefB (by kernel_rfl) (by kernel_rfl)) (by kernel_rfl) (by kernel_rfl) (by kernel_rfl) (door_met os _)
    (by kernel_rfl) (by kernel_rfl) (by kernel_rfl) Tryd.underlying4 rfl (fun ds h => ?_) (fun W base args ds p hval0 hA0 hwt hL => ?_)
  · match ds, h with
    | [_, _, _], _ => rfl
  · have hval : ∀ (j : Nat) t v, Tryd.f6.params[j]? = some t → args[j]? = some v → Value.okWide Tryd.prog W .any base t v := hval0
    have hA : DataW.TrodAll enc Tryd.prog W 0 (fun _ => true) true Tryd.f6.params.toList args.toList ds p := hA0
    rw [Tryd.params6] at hA hval
    obtain ⟨v0, v1, v2, d0, d1, d2, p0, p1, p2, rfl, rfl, rfl, h0, h1, h2⟩ := trodAll_three hA
    obtain ⟨x, rfl, rfl, rfl, wx⟩ := open_int Tryd.underlying3 (hval 0 _ v0 rfl rfl) h0
    obtain ⟨y, rfl, rfl, rfl, wy⟩ := open_int Tryd.underlying3 (hval 1 _ v1 rfl rfl) h1
    obtain ⟨o, n, cap, f, rfl, hsc⟩ := open_script (hval 2 _ v2 rfl rfl) h2
    obtain ⟨a0, a1, a2, hs⟩ := sents_of_laid hL
    exact GossipApart_ok hs (Nat.le_refl _) x y (wf_i64 wx) (wf_i64 wy) hsc

theorem GossipApart_said : Rows.GossipApartSaid :=
  OpenClaim.holds_of_wide 6 Tryd.f6 rfl rfl rfl rfl rfl rfl rfl ⟨rfl, rfl, rfl, rfl, rfl⟩ rfl rfl rfl rfl rfl (by kernel_rfl) Tryd.func6 (by kernel_rfl)
    (of_decide_eq_true (by kernel_rfl)) (by unfold Func.isWrapper; rw [if_neg (by decide +kernel)]; exact ⟨rfl, rfl⟩)
    (fun os started H enc _ => GossipApart_lifted os started H enc)

theorem GossipApart_holds : Rows.GossipApartCardSaid :=
  Claim7.holds_tied_plain_at .later [] [.sentinel, .sentinel, .sentinel] true _ true
    GossipApart_said (fun _ h => by cases h) (by kernel_rfl) (fun _ h => by cases h) gossipApart_row_tie rfl ⟨rfl, rfl⟩ (by kernel_rfl) rfl
    (fun f fn hf hfn => by
      obtain rfl : f = 6 := Option.some.inj ((show Tryd.prog.funcNamed "sluice/sluicelaw12.GossipApart" = some 6 by kernel_rfl).symm.trans hf) |>.symm
      obtain rfl : fn = Tryd.f6 := (Option.some.inj (Tryd.func6.symm.trans hfn)).symm
      exact ⟨by kernel_rfl, fun j t ht => by
        have hm : t ∈ Tryd.f6.params.toList := by simpa using Array.mem_of_getElem? ht
        have hall : (Tryd.f6.params.toList.all fun u => !Tryd.prog.wantsStandIn u) = true := by kernel_rfl
        exact (show Tryd.prog.wantsStandIn t = false by simpa using List.all_eq_true.1 hall t hm)⟩)
    (by kernel_rfl)
#print axioms GossipApart_holds
end Go.Proofs.YtapiakcfjhedpaaDoor
