/- The law LedgerConserves of chapter 6 is true of the program: over every script of hands between up to eight ledgers all rights together stay what went in, and the down rights change by the turns alone: the call returns true, and the arguments read as before. Condition: the three listed package-level errors hold what the program's text lays (tied by the card). -/
import Derived.Test.YthinmbcedgoglaaDoorScr
import Derived.Test.YthinmbcedgoglaaDoorCons
import Derived.Test.YthinmbcedgoglaaDoorTie
import Derived.Test.YthinmbcedgoglaaDoorCards
set_option maxRecDepth 100000
namespace Go.Proofs.YthinmbcedgoglaaDoor
open Go.ChangeShapes Go.WideShapes Go.RowKit

theorem cellsHand : Tryd.prog.cellsOf 39 = 5 := by kernel_rfl
theorem open_hands {H : Type} {enc : TypeId × Value → H} {w : World} {base : Nat} {spare : Nat → Bool} {held : Bool} {v : Value} {d : DataW H} {p : List MemPlace} (hv : Value.okWide Tryd.prog w .any base 36 v)
    (h : DataW.Trod enc Tryd.prog w 0 spare held 36 v d p) : ∃ (o : Option Addr) (n cap : Nat) (k x y a b : Nat → Int), v = .slice o n cap ∧ Hands w o n k x y a b := by
  obtain ⟨o, n, cap, f, rfl, hle, hcap, hsl, hfit⟩ := open_leaves (ls := [.int .i64, .int .i64, .int .i64, .int .i64, .int .i64]) 3 Tryd.underlying36 (by kernel_rfl) cellsHand (by simp) hv h
  have key : ∀ i, i < n → f i = [.int .i64 (intOfV ((f i).getD 0 default)), .int .i64 (intOfV ((f i).getD 1 default)), .int .i64 (intOfV ((f i).getD 2 default)), .int .i64 (intOfV ((f i).getD 3 default)), .int .i64 (intOfV ((f i).getD 4 default))] ∧
      i64 (intOfV ((f i).getD 0 default)) ∧ i64 (intOfV ((f i).getD 1 default)) ∧ i64 (intOfV ((f i).getD 2 default)) ∧ i64 (intOfV ((f i).getD 3 default)) ∧ i64 (intOfV ((f i).getD 4 default)) := by
    intro i hi
    obtain ⟨v0, r0, e0, ⟨x0, rfl, w0⟩, h0⟩ := (hfit i hi).inv
    obtain ⟨v1, r1, rfl, ⟨x1, rfl, w1⟩, h1⟩ := h0.inv
    obtain ⟨v2, r2, rfl, ⟨x2, rfl, w2⟩, h2⟩ := h1.inv
    obtain ⟨v3, r3, rfl, ⟨x3, rfl, w3⟩, h3⟩ := h2.inv
    obtain ⟨v4, r4, rfl, ⟨x4, rfl, w4⟩, h4⟩ := h3.inv
    obtain rfl := h4.inv0
    rw [e0]
    exact ⟨rfl, wf_i64 w0, wf_i64 w1, wf_i64 w2, wf_i64 w3, wf_i64 w4⟩
  refine ⟨o, n, cap, fun i => intOfV ((f i).getD 0 default), fun i => intOfV ((f i).getD 1 default), fun i => intOfV ((f i).getD 2 default), fun i => intOfV ((f i).getD 3 default), fun i => intOfV ((f i).getD 4 default), rfl, ⟨fun i hi => ?_, by omega, fun i hi => (key i hi).2⟩⟩
  obtain ⟨ad, h1, h2, h3, h4⟩ := hsl i hi
  refine ⟨ad, h1, h2, rfl, fun j u hu => h4 j u ?_⟩
  rw [(key i hi).1]; exact hu

theorem LedgerConserves_lifted (os : Os) (started : os.Started) (H : Type) (enc : TypeId × Value → H) :
    ReturnsInHanded {} Tryd.checked os 4 .any (fun w args => (Rows.ledgerConservesSpec.pre enc Tryd.prog Tryd.f4 [] false w args ∧ laidMetH Tryd.prog laidL w) ∧ sizedMet enc Tryd.prog Tryd.f4 (OpenSpec.ofChange Rows.ledgerConservesSpec) false w args)
      (Rows.ledgerConservesSpec.post enc Tryd.prog Tryd.f4 false true false false) := by
  refine law_lifted (C := Tryd.checked) (X := fun w _ => laidMetH Tryd.prog laidL w) (tb := 4) (fun _ _ _ hh h => h.of_heap hh) own started (by kernel_rfl) Tryd.func4
    (World.doorLaid Tryd.prog 400 os) #[.int .i64 0, .int .i64 0, .int .i64 0, .slice none 0 0] 8 rfl (World.shaped_of_RefB (by kernel_rfl) (by kernel_rfl)) (by kernel_rfl) (by kernel_rfl) (by kernel_rfl) (door_met os _)
    (by kernel_rfl) (by kernel_rfl) (by kernel_rfl) Tryd.underlying4 rfl (fun ds h => ?_) (fun W base args ds p hval0 hA0 hwt hL => ?_)
  · match ds, h with
    | [_, _, _, _], _ => rfl
  · have hval : ∀ (j : Nat) t v, Tryd.f4.params[j]? = some t → args[j]? = some v → Value.okWide Tryd.prog W .any base t v := hval0
    have hA : DataW.TrodAll enc Tryd.prog W 0 (fun _ => true) true Tryd.f4.params.toList args.toList ds p := hA0
    rw [Tryd.params4] at hA hval
    obtain ⟨v0, v1, v2, v3, d0, d1, d2, d3, p0, p1, p2, p3, rfl, rfl, rfl, h0, h1, h2, h3⟩ := trodAll_four hA
    obtain ⟨x, rfl, rfl, rfl, wx⟩ := open_int Tryd.underlying3 (hval 0 _ v0 rfl rfl) h0
    obtain ⟨y, rfl, rfl, rfl, wy⟩ := open_int Tryd.underlying3 (hval 1 _ v1 rfl rfl) h1
    obtain ⟨z, rfl, rfl, rfl, wz⟩ := open_int Tryd.underlying3 (hval 2 _ v2 rfl rfl) h2
    obtain ⟨o, n, cap, k, u, v, a, b, rfl, hsc⟩ := open_hands (hval 3 _ v3 rfl rfl) h3
    obtain ⟨a0, a1, a2, hs⟩ := sents_of_laid hL
    exact Conserves_ok hs (Nat.le_refl _) x y z (wf_i64 wx) (wf_i64 wy) (wf_i64 wz) hsc

theorem LedgerConserves_said : Rows.LedgerConservesSaid :=
  OpenClaim.holds_of_wide 4 Tryd.f4 rfl rfl rfl rfl rfl rfl rfl ⟨rfl, rfl, rfl, rfl, rfl⟩ rfl rfl rfl rfl rfl (by kernel_rfl) Tryd.func4 (by kernel_rfl)
    (of_decide_eq_true (by kernel_rfl)) (by unfold Func.isWrapper; rw [if_neg (by decide +kernel)]; exact ⟨rfl, rfl⟩)
    (fun os started H enc _ => LedgerConserves_lifted os started H enc)

theorem LedgerConserves_holds : Rows.LedgerConservesCardSaid :=
  Claim7.holds_tied_plain_at .later [] [.sentinel, .sentinel, .sentinel] true _ true
    LedgerConserves_said (fun _ h => by cases h) (by kernel_rfl) (fun _ h => by cases h) ledgerConserves_row_tie rfl ⟨rfl, rfl⟩ (by kernel_rfl) rfl
    (fun f fn hf hfn => by
      obtain rfl : f = 4 := Option.some.inj ((show Tryd.prog.funcNamed "sluice/sluicelaw6.LedgerConserves" = some 4 by kernel_rfl).symm.trans hf) |>.symm
      obtain rfl : fn = Tryd.f4 := (Option.some.inj (Tryd.func4.symm.trans hfn)).symm
      exact ⟨by kernel_rfl, fun j t ht => by
        have hm : t ∈ Tryd.f4.params.toList := by simpa using Array.mem_of_getElem? ht
        have hall : (Tryd.f4.params.toList.all fun u => !Tryd.prog.wantsStandIn u) = true := by kernel_rfl
        exact (show Tryd.prog.wantsStandIn t = false by simpa using List.all_eq_true.1 hall t hm)⟩)
    (by kernel_rfl)
#print axioms LedgerConserves_holds
end Go.Proofs.YthinmbcedgoglaaDoor
