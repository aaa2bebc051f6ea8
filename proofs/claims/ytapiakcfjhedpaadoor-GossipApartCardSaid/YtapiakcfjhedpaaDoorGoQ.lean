/- Chapter 12: made. Chapter 12: alive. Chapter 12: run; the three laws over a script. -/
import Derived.Test.YtapiakcfjhedpaaDoorGoP
import Derived.Test.YtapiakcfjhedpaaDoorBs
set_option maxRecDepth 100000
set_option linter.unusedSimpArgs false
set_option linter.unusedVariables false
set_option maxHeartbeats 4000000
namespace Go.Proofs.YtapiakcfjhedpaaDoor
open Go.RowKit

def PS.fresh (me n : Int) : PS := ⟨0, ⟨me, n, []⟩, Led.mk 0 0 0 1099511627776 0, ⟨me, [], List.replicate n.toNat 0⟩, ⟨me, n, []⟩, ⟨me, n, []⟩⟩
abbrev PO0 : PO := ⟨none, 0, none, 0⟩
theorem capTop : capB 1099511627776 = true := by decide
theorem PS.fresh_ok {me : Int} {n : Nat} (h : newErr me n = 0) : (PS.fresh me n).ok n 0 := by
  obtain ⟨h1, h2, h3, h4⟩ := newErr_0 h
  exact ⟨Led.new_ok capTop, ⟨rfl, rfl, fun nm => rfl⟩, VRel.new ⟨h3, h4⟩, rfl, rfl, by omega, by omega, by simp [PS.fresh], by simp [PS.fresh], by simp [PS.fresh]⟩
theorem pmade_bad {me n : Int} (h : newErr me n ≠ 0) (w : World) : Calls Tryd.prog 17 #[.int .i64 me, .int .i64 n] w fun e w' => e = .returned (.tuple #[.pointer none, .bool true]) ∧ Frm [] w w' := by
  have hI := Inv.nil (P := Tryd.prog) (N := 89) (S := []) (os := []) w
  refine calls_sm (cx 89 [] [] w) (vals := [.int .i64 me, .int .i64 n]) mixed Tryd.func17 rfl rfl rfl hI rfl (st rfl ?_); conv => arg 3; whnf
  (repeat (first | (refine n_must rfl ?_; (refine st rfl ?_; conv => arg 3; whnf)) | (refine n_chk (drawF_ok (by decide +kernel)) ?_; (refine st rfl ?_; conv => arg 3; whnf)) | (refine n_same rfl ?_; (refine st rfl ?_; conv => arg 3; whnf)) | (refine n_brT ?_ ?_; (focus (simp <;> fail)); (refine st rfl ?_; conv => arg 3; whnf)) | (refine n_brF ?_ ?_; (focus (simp <;> fail)); (refine st rfl ?_; conv => arg 3; whnf))))
  refine n_sameP (.tup [.nilp, .int .i64 (newErr me n)]) rfl rfl rfl (fun _ w1 hp1 hI1 => gNew_bad h w1) ?_; (refine st rfl ?_; conv => arg 3; whnf)
  (repeat (first | (refine n_must rfl ?_; (refine st rfl ?_; conv => arg 3; whnf)) | (refine n_chk (drawF_ok (by decide +kernel)) ?_; (refine st rfl ?_; conv => arg 3; whnf)) | (refine n_same rfl ?_; (refine st rfl ?_; conv => arg 3; whnf)) | (refine n_brT ?_ ?_; (focus (simp <;> fail)); (refine st rfl ?_; conv => arg 3; whnf)) | (refine n_brF ?_ ?_; (focus (simp <;> fail)); (refine st rfl ?_; conv => arg 3; whnf))))
  refine n_sameP (.tup [.nilp, .int .i64 (newErr me n)]) rfl rfl rfl (fun _ w1 hp1 hI1 => rgNew_bad h w1) ?_; (refine st rfl ?_; conv => arg 3; whnf)
  (repeat (first | (refine n_must rfl ?_; (refine st rfl ?_; conv => arg 3; whnf)) | (refine n_chk (drawF_ok (by decide +kernel)) ?_; (refine st rfl ?_; conv => arg 3; whnf)) | (refine n_same rfl ?_; (refine st rfl ?_; conv => arg 3; whnf)) | (refine n_must ?_ ?_; (focus (first | (simp; done) | (simp; omega))); (refine st rfl ?_; conv => arg 3; whnf)) | (refine n_brT ?_ ?_; (focus (first | (simp; done) | (simp; omega))); (refine st rfl ?_; conv => arg 3; whnf)) | (refine n_brF ?_ ?_; (focus (first | (simp; done) | (simp; omega))); (refine st rfl ?_; conv => arg 3; whnf)) | (refine n_must (by (with_reducible refine and_shape ?_) <;> kernel_rfl) ?_; (refine st rfl ?_; conv => arg 3; whnf))))
  exact n_ret0 rfl rfl fun ids' w' hp hI' => ⟨rfl, hI'.frm⟩
theorem pmade_good {me n : Int} (h : newErr me n = 0) (w : World) : Calls Tryd.prog 17 #[.int .i64 me, .int .i64 n] w fun e w' => ∃ A : PA, e = .returned (.tuple #[pV A.p, .bool true]) ∧ True ∧ FreshR w w' (pairRes A PO0 (PS.fresh me n)) := by
  have hI := Inv.nil (P := Tryd.prog) (N := 89) (S := []) (os := []) w
  refine calls_sm (cx 89 [] [] w) (vals := [.int .i64 me, .int .i64 n]) mixed Tryd.func17 rfl rfl rfl hI rfl (st rfl ?_); conv => arg 3; whnf
  (repeat (first | (refine n_must rfl ?_; (refine st rfl ?_; conv => arg 3; whnf)) | (refine n_chk (drawF_ok (by decide +kernel)) ?_; (refine st rfl ?_; conv => arg 3; whnf)) | (refine n_same rfl ?_; (refine st rfl ?_; conv => arg 3; whnf)) | (refine n_brT ?_ ?_; (focus (simp <;> fail)); (refine st rfl ?_; conv => arg 3; whnf)) | (refine n_brF ?_ ?_; (focus (simp <;> fail)); (refine st rfl ?_; conv => arg 3; whnf))))
  refine n_callN (Y := Nat × Nat) (fun y => gossRes y.1 y.2 ⟨me, n, []⟩) 60 (fun y => .tup [.raw (pV y.1), .int .i64 0]) (fun y => .tuple #[pV y.1, .int .i64 0]) (fun _ => True) rfl rfl rfl (fun _ => rfl) (fun w1 _ => gNew_good h w1) ?_
  rintro ⟨pg, mg⟩ _ hf0
  (refine st rfl ?_; conv => arg 3; whnf)
  (repeat (first | (refine n_must rfl ?_; (refine st rfl ?_; conv => arg 3; whnf)) | (refine n_chk (drawF_ok (by decide +kernel)) ?_; (refine st rfl ?_; conv => arg 3; whnf)) | (refine n_same rfl ?_; (refine st rfl ?_; conv => arg 3; whnf)) | (refine n_brT ?_ ?_; (focus (simp <;> fail)); (refine st rfl ?_; conv => arg 3; whnf)) | (refine n_brF ?_ ?_; (focus (simp <;> fail)); (refine st rfl ?_; conv => arg 3; whnf))))
  refine n_callN (Y := Nat) (fun y => rgRes y none 0 ⟨me, n, []⟩) 90 (fun y => .tup [.raw (pV y), .int .i64 0]) (fun y => .tuple #[pV y, .int .i64 0]) (fun _ => True) rfl rfl rfl (fun _ => rfl) (fun w1 _ => rgNew_good h w1) ?_
  rintro prg _ hf1
  (refine st rfl ?_; conv => arg 3; whnf)
  (repeat (first | (refine n_must rfl ?_; (refine st rfl ?_; conv => arg 3; whnf)) | (refine n_chk (drawF_ok (by decide +kernel)) ?_; (refine st rfl ?_; conv => arg 3; whnf)) | (refine n_same rfl ?_; (refine st rfl ?_; conv => arg 3; whnf)) | (refine n_must ?_ ?_; (focus (first | (simp; done) | (simp; omega))); (refine st rfl ?_; conv => arg 3; whnf)) | (refine n_brT ?_ ?_; (focus (first | (simp; done) | (simp; omega))); (refine st rfl ?_; conv => arg 3; whnf)) | (refine n_brF ?_ ?_; (focus (first | (simp; done) | (simp; omega))); (refine st rfl ?_; conv => arg 3; whnf)) | (refine n_must (by (with_reducible refine and_shape ?_) <;> kernel_rfl) ?_; (refine st rfl ?_; conv => arg 3; whnf))))
  refine n_new (.tup [.ptr 2 0, .int .i64 0]) ⟨63, (Led.mk 0 0 0 1099511627776 0).sv, true⟩ _ _ rfl rfl rfl (fun _ => rfl) (fun _ => rfl) (fun w1 _ => New_1 _ capTop w1) fun pl hpl _ => ?_
  (refine st rfl ?_; conv => arg 3; whnf)
  (repeat (first | (refine n_must rfl ?_; (refine st rfl ?_; conv => arg 3; whnf)) | (refine n_chk (drawF_ok (by decide +kernel)) ?_; (refine st rfl ?_; conv => arg 3; whnf)) | (refine n_same rfl ?_; (refine st rfl ?_; conv => arg 3; whnf)) | (refine n_must ?_ ?_; (focus (first | (simp; done) | (simp; omega))); (refine st rfl ?_; conv => arg 3; whnf)) | (refine n_brT ?_ ?_; (focus (first | (simp; done) | (simp; omega))); (refine st rfl ?_; conv => arg 3; whnf)) | (refine n_brF ?_ ?_; (focus (first | (simp; done) | (simp; omega))); (refine st rfl ?_; conv => arg 3; whnf)) | (refine n_must (by (with_reducible refine and_shape ?_) <;> kernel_rfl) ?_; (refine st rfl ?_; conv => arg 3; whnf))))
  refine n_callN (Y := Nat × Nat × Nat) (fun y => viewsRes y.1 y.2.1 y.2.2 ⟨me, [], List.replicate n.toNat 0⟩) 67 (fun y => .tup [.raw (pV y.1), .int .i64 0]) (fun y => .tuple #[pV y.1, .int .i64 0]) (fun _ => True) rfl rfl rfl (fun _ => rfl) (fun w1 _ => vNew_good h w1) ?_
  rintro ⟨pv, mv, nv⟩ _ hf3
  (refine st rfl ?_; conv => arg 3; whnf)
  (repeat (first | (refine n_must rfl ?_; (refine st rfl ?_; conv => arg 3; whnf)) | (refine n_chk (drawF_ok (by decide +kernel)) ?_; (refine st rfl ?_; conv => arg 3; whnf)) | (refine n_same rfl ?_; (refine st rfl ?_; conv => arg 3; whnf)) | (refine n_must ?_ ?_; (focus (first | (simp; done) | (simp; omega))); (refine st rfl ?_; conv => arg 3; whnf)) | (refine n_brT ?_ ?_; (focus (first | (simp; done) | (simp; omega))); (refine st rfl ?_; conv => arg 3; whnf)) | (refine n_brF ?_ ?_; (focus (first | (simp; done) | (simp; omega))); (refine st rfl ?_; conv => arg 3; whnf)) | (refine n_must (by (with_reducible refine and_shape ?_) <;> kernel_rfl) ?_; (refine st rfl ?_; conv => arg 3; whnf))))
  refine n_new (.tup [.ptr 4 0, .int .i64 0]) ⟨93, (Led.mk 0 0 0 1099511627776 0).sv, true⟩ _ _ rfl rfl rfl (fun _ => rfl) (fun _ => rfl) (fun w1 _ => rNew_1 _ capTop w1) fun prl hprl _ => ?_
  (refine st rfl ?_; conv => arg 3; whnf)
  (repeat (first | (refine n_must rfl ?_; (refine st rfl ?_; conv => arg 3; whnf)) | (refine n_chk (drawF_ok (by decide +kernel)) ?_; (refine st rfl ?_; conv => arg 3; whnf)) | (refine n_same rfl ?_; (refine st rfl ?_; conv => arg 3; whnf)) | (refine n_must ?_ ?_; (focus (first | (simp; done) | (simp; omega))); (refine st rfl ?_; conv => arg 3; whnf)) | (refine n_brT ?_ ?_; (focus (first | (simp; done) | (simp; omega))); (refine st rfl ?_; conv => arg 3; whnf)) | (refine n_brF ?_ ?_; (focus (first | (simp; done) | (simp; omega))); (refine st rfl ?_; conv => arg 3; whnf)) | (refine n_must (by (with_reducible refine and_shape ?_) <;> kernel_rfl) ?_; (refine st rfl ?_; conv => arg 3; whnf))))
  refine n_callN (Y := Nat) (fun y => rvRes y none 0 ⟨me, n, []⟩) 96 (fun y => .tup [.raw (pV y), .int .i64 0]) (fun y => .tuple #[pV y, .int .i64 0]) (fun _ => True) rfl rfl rfl (fun _ => rfl) (fun w1 _ => rvNew_good h w1) ?_
  rintro prv _ hf5
  (refine st rfl ?_; conv => arg 3; whnf)
  (repeat (first | (refine n_must rfl ?_; (refine st rfl ?_; conv => arg 3; whnf)) | (refine n_chk (drawF_ok (by decide +kernel)) ?_; (refine st rfl ?_; conv => arg 3; whnf)) | (refine n_same rfl ?_; (refine st rfl ?_; conv => arg 3; whnf)) | (refine n_must ?_ ?_; (focus (first | (simp; done) | (simp; omega))); (refine st rfl ?_; conv => arg 3; whnf)) | (refine n_brT ?_ ?_; (focus (first | (simp; done) | (simp; omega))); (refine st rfl ?_; conv => arg 3; whnf)) | (refine n_brF ?_ ?_; (focus (first | (simp; done) | (simp; omega))); (refine st rfl ?_; conv => arg 3; whnf)) | (refine n_must (by (with_reducible refine and_shape ?_) <;> kernel_rfl) ?_; (refine st rfl ?_; conv => arg 3; whnf))))
  refine n_ret rfl fun ids' w' hp hI' => ?_
  obtain ⟨p, rfl⟩ := ext1 hp (by rw [hI'.len]; rfl)
  refine ⟨_, rfl, ⟨p, pg, mg, pl, pv, mv, nv, prg, prl, prv⟩, rfl, trivial, ?_⟩
  exact fresh_shut hI' rfl [6, 0, 2, 3, 1, 4, 5] (.blk rfl rfl rfl rfl (.res rfl (.blk rfl rfl rfl rfl (.res rfl (.res rfl (.blk rfl rfl rfl rfl (.res rfl .nil))))))) (by decide)

abbrev nmA : ByteArray := ⟨#[107]⟩
abbrev opA : Nat → Int × Int × ByteArray × Int × Int
  | 0 => (5, 0, ByteArray.empty, 1, 0)
  | 1 => (7, 1, nmA, 4, 9)
  | 2 => (7, 2, nmA, 6, 2)
  | _ => (1, 0, nmA, 5, 2)
def stA : Nat → PS
  | 0 => PS.fresh 0 3
  | i + 1 => (stA i).play 3 (opA i).1 (opA i).2.1 (opA i).2.2.1 (opA i).2.2.2.1 (opA i).2.2.2.2
abbrev opsA : List SV := opS 5 0 0 ByteArray.empty 1 0 ++ opS 7 0 1 nmA 4 9 ++ opS 7 0 2 nmA 6 2 ++ opS 1 0 0 nmA 5 2
theorem aliveTick : ((stA 4).G.tick nmA (stA 4).l.d (stA 4).l.u (rKnownL (stA 4).RV.All nmA 3)).2 = (2, (4, 2), true) := by decide +kernel
theorem pair_den (A : PA) (O : PO) (S : PS) : ∀ i b, nth (pairMem A O S) i = some b → resOf b = none → ∃ l, denL [] b.cells = some l := by
  intro i b h hr
  match i, h with
  | 0, h => simp [nth] at h; subst h; exact ⟨_, rfl⟩
  | 1, h => simp [nth] at h; subst h; cases hr
  | 2, h => simp [nth] at h; subst h; exact ⟨_, rfl⟩
  | 3, h => simp [nth] at h; subst h; cases hr
  | 4, h => simp [nth] at h; subst h; cases hr
  | 5, h => simp [nth] at h; subst h; exact ⟨_, rfl⟩
  | 6, h => simp [nth] at h; subst h; cases hr
  | n + 7, h => simp [nth] at h
/-- What the next call needs is carried along. -/
theorem played_on {b0 : Nat} {A : PA} {O : PO} {S : PS} {n K : Nat} {w : World} {a0 a1 a2 : Addr} (hs : Sents b0 w a0 a1 a2) (hb0 : ∀ x ∈ (pairRes A O S).fp, b0 ≤ x) (hB : b0 ≤ w.heap.size) (hR : (pairRes A O S).R w) (ok : S.ok n K) (hK : K ≤ 1000) (k who a : Int) (nm : ByteArray) (d u : Int) (ha : i64 a) (hnm : nm.size ≤ maxLen) :
    Calls Tryd.prog 18 #[pV A.p, .agg (opV k who a nm d u)] w fun e w' => ∃ O' : PO, e = .returned (.bool true) ∧ ((∀ x ∈ (pairRes A O' (S.play n k a nm d u)).fp, b0 ≤ x) ∧ (S.play n k a nm d u).ok n (K + 1)) ∧ Post (pairRes A O S) (pairRes A O' (S.play n k a nm d u)) w w' :=
  (played_ok hs hb0 hB hR ok hK k who a nm d u ha hnm).mono fun e w' ⟨O', he, _, hP⟩ => ⟨O', he, ⟨fun x hx => by
    rcases hP.2.2.1 x hx with h | h
    · exact hb0 x h
    · omega, ok.play hK (bytes0 hR).1 k a nm d u⟩, hP⟩
theorem newErr03 : newErr 0 3 = 0 := by decide
theorem opParts : sizeB Tryd.prog 40 = some 6 := by kernel_rfl

theorem alive_ok {b0 : Nat} {w : World} {a0 a1 a2 : Addr} (hs : Sents b0 w a0 a1 a2) (hB : b0 ≤ w.heap.size) :
    Calls Tryd.prog 8 #[] w fun e w' => e = .returned (.bool true) ∧ Frm [] w w' := by
  have hI := Inv.nil (P := Tryd.prog) (N := 68) (S := []) (os := [(11, .then [(0, []), (1, []), (2, []), (3, []), (4, []), (5, []), (6, []), (7, []), (8, []), (9, []), (10, []), (11, [])] (.fork 12 [] (.of [(13, []), (14, []), (15, []), (16, []), (17, []), (18, []), (19, []), (20, [])]) (.cons 17 [11, 7, 3] (.of [(12, []), (13, []), (14, []), (15, []), (16, []), (18, []), (19, []), (20, [])]))))]) w
  have hsf : ∀ {c : Ctx} {w1 : World} {ids' : List Nat} {m : Mem}, c.S = [] → c.w0 = w → Inv c w1 ids' m → Sents b0 w1 a0 a1 a2 ∧ b0 ≤ w1.heap.size := by
    rintro c w1 ids' m h1 rfl hI1
    exact ⟨hs.frm hI1.frm (by rw [h1]; simp) hB, Nat.le_trans hB hI1.frm.size⟩
  refine calls_sm (cx 68 [(11, .then [(0, []), (1, []), (2, []), (3, []), (4, []), (5, []), (6, []), (7, []), (8, []), (9, []), (10, []), (11, [])] (.fork 12 [] (.of [(13, []), (14, []), (15, []), (16, []), (17, []), (18, []), (19, []), (20, [])]) (.cons 17 [11, 7, 3] (.of [(12, []), (13, []), (14, []), (15, []), (16, []), (18, []), (19, []), (20, [])]))))] [] w) (vals := []) mixed Tryd.func8 rfl rfl rfl hI rfl (st rfl ?_); conv => arg 3; whnf
  (repeat (first | (refine n_must rfl ?_; (refine st rfl ?_; conv => arg 3; whnf)) | (refine n_chk (drawF_ok (by decide +kernel)) ?_; (refine st rfl ?_; conv => arg 3; whnf)) | (refine n_same rfl ?_; (refine st rfl ?_; conv => arg 3; whnf)) | (refine n_brT ?_ ?_; (focus (simp <;> fail)); (refine st rfl ?_; conv => arg 3; whnf)) | (refine n_brF ?_ ?_; (focus (simp <;> fail)); (refine st rfl ?_; conv => arg 3; whnf))))
  refine n_callNM (Y := PA) (fun A => pairIds A) (fun A => pairMem A PO0 (PS.fresh 0 3)) (fun A => .tup [.ptr 0 0, .lit true]) (fun A => .tuple #[pV A.p, .bool true]) (fun _ => True) rfl rfl rfl (fun _ => rfl) (fun A => pair_den A _ _) (fun w1 _ => pmade_good newErr03 w1) ?_
  intro A _ hfA
  (refine st rfl ?_; conv => arg 3; whnf)
  (repeat (first | (refine n_must rfl ?_; (refine st rfl ?_; conv => arg 3; whnf)) | (refine n_chk (drawF_ok (by decide +kernel)) ?_; (refine st rfl ?_; conv => arg 3; whnf)) | (refine n_same rfl ?_; (refine st rfl ?_; conv => arg 3; whnf)) | (refine n_must ?_ ?_; (focus (first | (simp; done) | (simp; omega))); (refine st rfl ?_; conv => arg 3; whnf)) | (refine n_brT ?_ ?_; (focus (first | (simp; done) | (simp; omega))); (refine st rfl ?_; conv => arg 3; whnf)) | (refine n_brF ?_ ?_; (focus (first | (simp; done) | (simp; omega))); (refine st rfl ?_; conv => arg 3; whnf)) | (refine n_must (by (with_reducible refine and_shape ?_) <;> kernel_rfl) ?_; (refine st rfl ?_; conv => arg 3; whnf))))
  refine n_buildN (len := 4) (n := 6) (xs := opsA) rfl rfl rfl rfl rfl opParts rfl rfl rfl rfl rfl ?_
  (refine st rfl ?_; conv => arg 3; whnf)
  (repeat (first | (refine n_must rfl ?_; (refine st rfl ?_; conv => arg 3; whnf)) | (refine n_chk (drawF_ok (by decide +kernel)) ?_; (refine st rfl ?_; conv => arg 3; whnf)) | (refine n_same rfl ?_; (refine st rfl ?_; conv => arg 3; whnf)) | (refine n_brT ?_ ?_; (focus (simp <;> fail)); (refine st rfl ?_; conv => arg 3; whnf)) | (refine n_brF ?_ ?_; (focus (simp <;> fail)); (refine st rfl ?_; conv => arg 3; whnf))))
  refine n_loop1 rfl fun ob => ?_
  refine n_loop (σ := Nat × PO) (fun s => [(1, .ptr 0 0), (3, .sl 7 0 4 4), (4, .int .i64 (s.1 : Nat))]) (fun s => pairMem A s.2 (stA s.1) ++ [⟨40, opsA, true⟩]) (fun s => s.1 ≤ 4 ∧ (∀ x ∈ (pairRes A s.2 (stA s.1)).fp, b0 ≤ x) ∧ (stA s.1).ok 3 s.1) (fun s => 4 - s.1) (0, PO0) mixed ⟨by simp, fun x hx => Nat.le_trans hB (hfA x hx), PS.fresh_ok newErr03⟩ (fun _ _ => rfl) rfl (by (repeat (first | exact trivial | refine ⟨⟨rfl, rfl⟩, ?_⟩))) (fun s _ => ⟨by (repeat (first | exact trivial | refine ⟨⟨_, rfl⟩, ?_⟩)), by (repeat (first | exact trivial | refine ⟨⟨_, rfl⟩, ?_⟩))⟩) fun s hJ => ?_
  obtain ⟨i, O⟩ := s
  obtain ⟨hi, hfp, ok⟩ := hJ
  dsimp only at hi hfp ok ⊢
  (refine st rfl ?_; conv => arg 3; whnf)
  by_cases hlt : i < 4
  · obtain rfl | rfl | rfl | rfl : i = 0 ∨ i = 1 ∨ i = 2 ∨ i = 3 := by omega
    · (repeat (first | (refine n_must rfl ?_; (refine st rfl ?_; conv => arg 3; whnf)) | (refine n_chk (drawF_ok (by decide +kernel)) ?_; (refine st rfl ?_; conv => arg 3; whnf)) | (refine n_same rfl ?_; (refine st rfl ?_; conv => arg 3; whnf)) | (refine n_must ?_ ?_; (focus (first | (simp; done) | (simp; omega))); (refine st rfl ?_; conv => arg 3; whnf)) | (refine n_brT ?_ ?_; (focus (first | (simp; done) | (simp; omega))); (refine st rfl ?_; conv => arg 3; whnf)) | (refine n_brF ?_ ?_; (focus (first | (simp; done) | (simp; omega))); (refine st rfl ?_; conv => arg 3; whnf)) | (refine n_must (by (with_reducible refine and_shape ?_) <;> kernel_rfl) ?_; (refine st rfl ?_; conv => arg 3; whnf))))
      refine n_callM (Y := PO) (pairIds A) (pairMem A O (stA 0)) _ (fun O' => pairMem A O' (stA (0 + 1))) (fun _ => .bool true) (fun _ => .bool true) (fun O' => (∀ x ∈ (pairRes A O' (stA (0 + 1))).fp, b0 ≤ x) ∧ (stA (0 + 1)).ok 3 (0 + 1)) rfl rfl (fun _ => rfl) rfl (List.prefix_append _ _) (fun ids' hp => pair_sel ((List.prefix_append _ _).trans hp)) (pair_rw A O _) (fun _ _ => rfl) (fun _ w1 hp1 hI1 hR => played_on (hsf rfl rfl hI1).1 hfp (hsf rfl rfl hI1).2 hR ok (by omega) 5 0 0 ByteArray.empty 1 0 (by omega) (by decide)) ?_
      intro O' hO'
      (refine st rfl ?_; conv => arg 3; whnf)
      (repeat (first | (refine n_must rfl ?_; (refine st rfl ?_; conv => arg 3; whnf)) | (refine n_chk (drawF_ok (by decide +kernel)) ?_; (refine st rfl ?_; conv => arg 3; whnf)) | (refine n_same rfl ?_; (refine st rfl ?_; conv => arg 3; whnf)) | (refine n_must ?_ ?_; (focus (first | (simp; done) | (simp; omega))); (refine st rfl ?_; conv => arg 3; whnf)) | (refine n_brT ?_ ?_; (focus (first | (simp; done) | (simp; omega))); (refine st rfl ?_; conv => arg 3; whnf)) | (refine n_brF ?_ ?_; (focus (first | (simp; done) | (simp; omega))); (refine st rfl ?_; conv => arg 3; whnf)) | (refine n_must (by (with_reducible refine and_shape ?_) <;> kernel_rfl) ?_; (refine st rfl ?_; conv => arg 3; whnf))))
      exact n_again ⟨(0 + 1, O'), ⟨by dsimp only; omega, hO'.1, hO'.2⟩, by dsimp only; omega, (by (repeat (first | exact trivial | refine ⟨⟨rfl, rfl⟩, ?_⟩))), ⟨_, rfl⟩⟩
    · (repeat (first | (refine n_must rfl ?_; (refine st rfl ?_; conv => arg 3; whnf)) | (refine n_chk (drawF_ok (by decide +kernel)) ?_; (refine st rfl ?_; conv => arg 3; whnf)) | (refine n_same rfl ?_; (refine st rfl ?_; conv => arg 3; whnf)) | (refine n_must ?_ ?_; (focus (first | (simp; done) | (simp; omega))); (refine st rfl ?_; conv => arg 3; whnf)) | (refine n_brT ?_ ?_; (focus (first | (simp; done) | (simp; omega))); (refine st rfl ?_; conv => arg 3; whnf)) | (refine n_brF ?_ ?_; (focus (first | (simp; done) | (simp; omega))); (refine st rfl ?_; conv => arg 3; whnf)) | (refine n_must (by (with_reducible refine and_shape ?_) <;> kernel_rfl) ?_; (refine st rfl ?_; conv => arg 3; whnf))))
      refine n_callM (Y := PO) (pairIds A) (pairMem A O (stA 1)) _ (fun O' => pairMem A O' (stA (1 + 1))) (fun _ => .bool true) (fun _ => .bool true) (fun O' => (∀ x ∈ (pairRes A O' (stA (1 + 1))).fp, b0 ≤ x) ∧ (stA (1 + 1)).ok 3 (1 + 1)) rfl rfl (fun _ => rfl) rfl (List.prefix_append _ _) (fun ids' hp => pair_sel ((List.prefix_append _ _).trans hp)) (pair_rw A O _) (fun _ _ => rfl) (fun _ w1 hp1 hI1 hR => played_on (hsf rfl rfl hI1).1 hfp (hsf rfl rfl hI1).2 hR ok (by omega) 7 0 1 nmA 4 9 (by omega) (by decide)) ?_
      intro O' hO'
      (refine st rfl ?_; conv => arg 3; whnf)
      (repeat (first | (refine n_must rfl ?_; (refine st rfl ?_; conv => arg 3; whnf)) | (refine n_chk (drawF_ok (by decide +kernel)) ?_; (refine st rfl ?_; conv => arg 3; whnf)) | (refine n_same rfl ?_; (refine st rfl ?_; conv => arg 3; whnf)) | (refine n_must ?_ ?_; (focus (first | (simp; done) | (simp; omega))); (refine st rfl ?_; conv => arg 3; whnf)) | (refine n_brT ?_ ?_; (focus (first | (simp; done) | (simp; omega))); (refine st rfl ?_; conv => arg 3; whnf)) | (refine n_brF ?_ ?_; (focus (first | (simp; done) | (simp; omega))); (refine st rfl ?_; conv => arg 3; whnf)) | (refine n_must (by (with_reducible refine and_shape ?_) <;> kernel_rfl) ?_; (refine st rfl ?_; conv => arg 3; whnf))))
      exact n_again ⟨(1 + 1, O'), ⟨by dsimp only; omega, hO'.1, hO'.2⟩, by dsimp only; omega, (by (repeat (first | exact trivial | refine ⟨⟨rfl, rfl⟩, ?_⟩))), ⟨_, rfl⟩⟩
    · (repeat (first | (refine n_must rfl ?_; (refine st rfl ?_; conv => arg 3; whnf)) | (refine n_chk (drawF_ok (by decide +kernel)) ?_; (refine st rfl ?_; conv => arg 3; whnf)) | (refine n_same rfl ?_; (refine st rfl ?_; conv => arg 3; whnf)) | (refine n_must ?_ ?_; (focus (first | (simp; done) | (simp; omega))); (refine st rfl ?_; conv => arg 3; whnf)) | (refine n_brT ?_ ?_; (focus (first | (simp; done) | (simp; omega))); (refine st rfl ?_; conv => arg 3; whnf)) | (refine n_brF ?_ ?_; (focus (first | (simp; done) | (simp; omega))); (refine st rfl ?_; conv => arg 3; whnf)) | (refine n_must (by (with_reducible refine and_shape ?_) <;> kernel_rfl) ?_; (refine st rfl ?_; conv => arg 3; whnf))))
      refine n_callM (Y := PO) (pairIds A) (pairMem A O (stA 2)) _ (fun O' => pairMem A O' (stA (2 + 1))) (fun _ => .bool true) (fun _ => .bool true) (fun O' => (∀ x ∈ (pairRes A O' (stA (2 + 1))).fp, b0 ≤ x) ∧ (stA (2 + 1)).ok 3 (2 + 1)) rfl rfl (fun _ => rfl) rfl (List.prefix_append _ _) (fun ids' hp => pair_sel ((List.prefix_append _ _).trans hp)) (pair_rw A O _) (fun _ _ => rfl) (fun _ w1 hp1 hI1 hR => played_on (hsf rfl rfl hI1).1 hfp (hsf rfl rfl hI1).2 hR ok (by omega) 7 0 2 nmA 6 2 (by omega) (by decide)) ?_
      intro O' hO'
      (refine st rfl ?_; conv => arg 3; whnf)
      (repeat (first | (refine n_must rfl ?_; (refine st rfl ?_; conv => arg 3; whnf)) | (refine n_chk (drawF_ok (by decide +kernel)) ?_; (refine st rfl ?_; conv => arg 3; whnf)) | (refine n_same rfl ?_; (refine st rfl ?_; conv => arg 3; whnf)) | (refine n_must ?_ ?_; (focus (first | (simp; done) | (simp; omega))); (refine st rfl ?_; conv => arg 3; whnf)) | (refine n_brT ?_ ?_; (focus (first | (simp; done) | (simp; omega))); (refine st rfl ?_; conv => arg 3; whnf)) | (refine n_brF ?_ ?_; (focus (first | (simp; done) | (simp; omega))); (refine st rfl ?_; conv => arg 3; whnf)) | (refine n_must (by (with_reducible refine and_shape ?_) <;> kernel_rfl) ?_; (refine st rfl ?_; conv => arg 3; whnf))))
      exact n_again ⟨(2 + 1, O'), ⟨by dsimp only; omega, hO'.1, hO'.2⟩, by dsimp only; omega, (by (repeat (first | exact trivial | refine ⟨⟨rfl, rfl⟩, ?_⟩))), ⟨_, rfl⟩⟩
    · (repeat (first | (refine n_must rfl ?_; (refine st rfl ?_; conv => arg 3; whnf)) | (refine n_chk (drawF_ok (by decide +kernel)) ?_; (refine st rfl ?_; conv => arg 3; whnf)) | (refine n_same rfl ?_; (refine st rfl ?_; conv => arg 3; whnf)) | (refine n_must ?_ ?_; (focus (first | (simp; done) | (simp; omega))); (refine st rfl ?_; conv => arg 3; whnf)) | (refine n_brT ?_ ?_; (focus (first | (simp; done) | (simp; omega))); (refine st rfl ?_; conv => arg 3; whnf)) | (refine n_brF ?_ ?_; (focus (first | (simp; done) | (simp; omega))); (refine st rfl ?_; conv => arg 3; whnf)) | (refine n_must (by (with_reducible refine and_shape ?_) <;> kernel_rfl) ?_; (refine st rfl ?_; conv => arg 3; whnf))))
      refine n_callM (Y := PO) (pairIds A) (pairMem A O (stA 3)) _ (fun O' => pairMem A O' (stA (3 + 1))) (fun _ => .bool true) (fun _ => .bool true) (fun O' => (∀ x ∈ (pairRes A O' (stA (3 + 1))).fp, b0 ≤ x) ∧ (stA (3 + 1)).ok 3 (3 + 1)) rfl rfl (fun _ => rfl) rfl (List.prefix_append _ _) (fun ids' hp => pair_sel ((List.prefix_append _ _).trans hp)) (pair_rw A O _) (fun _ _ => rfl) (fun _ w1 hp1 hI1 hR => played_on (hsf rfl rfl hI1).1 hfp (hsf rfl rfl hI1).2 hR ok (by omega) 1 0 0 nmA 5 2 (by omega) (by decide)) ?_
      intro O' hO'
      (refine st rfl ?_; conv => arg 3; whnf)
      (repeat (first | (refine n_must rfl ?_; (refine st rfl ?_; conv => arg 3; whnf)) | (refine n_chk (drawF_ok (by decide +kernel)) ?_; (refine st rfl ?_; conv => arg 3; whnf)) | (refine n_same rfl ?_; (refine st rfl ?_; conv => arg 3; whnf)) | (refine n_must ?_ ?_; (focus (first | (simp; done) | (simp; omega))); (refine st rfl ?_; conv => arg 3; whnf)) | (refine n_brT ?_ ?_; (focus (first | (simp; done) | (simp; omega))); (refine st rfl ?_; conv => arg 3; whnf)) | (refine n_brF ?_ ?_; (focus (first | (simp; done) | (simp; omega))); (refine st rfl ?_; conv => arg 3; whnf)) | (refine n_must (by (with_reducible refine and_shape ?_) <;> kernel_rfl) ?_; (refine st rfl ?_; conv => arg 3; whnf))))
      exact n_again ⟨(3 + 1, O'), ⟨by dsimp only; omega, hO'.1, hO'.2⟩, by dsimp only; omega, (by (repeat (first | exact trivial | refine ⟨⟨rfl, rfl⟩, ?_⟩))), ⟨_, rfl⟩⟩
  · obtain rfl : i = 4 := by omega
    (repeat (first | (refine n_must rfl ?_; (refine st rfl ?_; conv => arg 3; whnf)) | (refine n_chk (drawF_ok (by decide +kernel)) ?_; (refine st rfl ?_; conv => arg 3; whnf)) | (refine n_same rfl ?_; (refine st rfl ?_; conv => arg 3; whnf)) | (refine n_must ?_ ?_; (focus (first | (simp; done) | (simp; omega))); (refine st rfl ?_; conv => arg 3; whnf)) | (refine n_brT ?_ ?_; (focus (first | (simp; done) | (simp; omega))); (refine st rfl ?_; conv => arg 3; whnf)) | (refine n_brF ?_ ?_; (focus (first | (simp; done) | (simp; omega))); (refine st rfl ?_; conv => arg 3; whnf)) | (refine n_must (by (with_reducible refine and_shape ?_) <;> kernel_rfl) ?_; (refine st rfl ?_; conv => arg 3; whnf))))
    refine n_exit rfl ?_
    (refine st rfl ?_; conv => arg 3; whnf)
    (repeat (first | (refine n_must rfl ?_; (refine st rfl ?_; conv => arg 3; whnf)) | (refine n_chk (drawF_ok (by decide +kernel)) ?_; (refine st rfl ?_; conv => arg 3; whnf)) | (refine n_same rfl ?_; (refine st rfl ?_; conv => arg 3; whnf)) | (refine n_brT ?_ ?_; (focus (simp <;> fail)); (refine st rfl ?_; conv => arg 3; whnf)) | (refine n_brF ?_ ?_; (focus (simp <;> fail)); (refine st rfl ?_; conv => arg 3; whnf))))
    have hme : -10 ≤ (stA 4).G.me ∧ (stA 4).G.me ≤ 1000 := by have := ok.gme; have := ok.v.me; have := ok.v.mein; omega
    have hvl : (stA 4).V.ns.length ≤ 1000 := by rw [ok.v.len]; omega
    have hT1 : ∀ w1 : World, (gossRes A.pg A.mg (stA 4).G).R w1 → Blk w1 A.pl (stA 4).l.cells 63 → (viewsRes A.pv A.mv A.nv (stA 4).V).R w1 → A.pl ∉ (gossRes A.pg A.mg (stA 4).G).fp → A.pl ∉ (viewsRes A.pv A.mv A.nv (stA 4).V).fp → (∀ x ∈ (gossRes A.pg A.mg (stA 4).G).fp, x ∉ (viewsRes A.pv A.mv A.nv (stA 4).V).fp) →
        Calls Tryd.prog 14 #[pV A.pg, .string nmA, pV A.pl, pV A.pv] w1 fun e w' => e = .returned (tickV (2, (4, 2), true)) ∧ Post (gossRes A.pg A.mg (stA 4).G) (gossRes A.pg A.mg ((stA 4).G.tick nmA (stA 4).l.d (stA 4).l.u (rKnownL (stA 4).RV.All nmA 3)).1) w1 w' := by
      intro w1 h1 h2 h3 h4 h5 h6
      have := Tick_ok h1 hme h2 h3 h4 h5 h6 hvl nmA (by decide)
      rw [ok.v.len, known_like ok.v nmA, aliveTick] at this
      exact this
    generalize ((stA 4).G.tick nmA (stA 4).l.d (stA 4).l.u (rKnownL (stA 4).RV.All nmA 3)).1 = G' at hT1
    refine n_both ?_ ?_
    · (refine st rfl ?_; conv => arg 3; whnf)
      refine n_callR (Y := Unit) 1 (fun _ => gossRes A.pg A.mg G') (fun _ => .tup [.int .i64 2, .agg [.int .i64 4, .int .i64 2], .bool true]) (fun _ => .tuple #[.int .i64 2, .agg #[.int .i64 4, .int .i64 2], .bool true]) (fun _ => True) rfl rfl (fun _ => rfl) rfl rfl rfl (fun _ w1 hp1 hI1 hR => (hT1 w1 hR (hI1.blk_at hp1 2 rfl rfl rfl) (hI1.res 3 rfl rfl) (hI1.ne_res 2 1 (by decide) rfl (pre_at hp1 rfl) rfl rfl rfl) (hI1.ne_res 2 3 (by decide) rfl (pre_at hp1 rfl) rfl rfl rfl) (hI1.res_res 1 3 (by decide) rfl rfl rfl rfl)).mono fun e w' ⟨he, hf⟩ => ⟨(), he, trivial, hf⟩) ?_
      intro _ _
      (refine st rfl ?_; conv => arg 3; whnf)
      (repeat (first | (refine n_must rfl ?_; (refine st rfl ?_; conv => arg 3; whnf)) | (refine n_chk (drawF_ok (by decide +kernel)) ?_; (refine st rfl ?_; conv => arg 3; whnf)) | (refine n_same rfl ?_; (refine st rfl ?_; conv => arg 3; whnf)) | (refine n_must ?_ ?_; (focus (first | (simp; done) | (simp; omega))); (refine st rfl ?_; conv => arg 3; whnf)) | (refine n_brT ?_ ?_; (focus (first | (simp; done) | (simp; omega))); (refine st rfl ?_; conv => arg 3; whnf)) | (refine n_brF ?_ ?_; (focus (first | (simp; done) | (simp; omega))); (refine st rfl ?_; conv => arg 3; whnf)) | (refine n_must (by (with_reducible refine and_shape ?_) <;> kernel_rfl) ?_; (refine st rfl ?_; conv => arg 3; whnf))))
      refine n_sameP (.bool true) rfl rfl rfl (fun _ w1 hp1 hI1 => (same_ok (4, 2) (4, 2) w1).mono fun e w' ⟨h1, h2⟩ => ⟨by simpa using h1, h2⟩) ?_; (refine st rfl ?_; conv => arg 3; whnf)
      (repeat (first | (refine n_must rfl ?_; (refine st rfl ?_; conv => arg 3; whnf)) | (refine n_chk (drawF_ok (by decide +kernel)) ?_; (refine st rfl ?_; conv => arg 3; whnf)) | (refine n_same rfl ?_; (refine st rfl ?_; conv => arg 3; whnf)) | (refine n_must ?_ ?_; (focus (first | (simp; done) | (simp; omega))); (refine st rfl ?_; conv => arg 3; whnf)) | (refine n_brT ?_ ?_; (focus (first | (simp; done) | (simp; omega))); (refine st rfl ?_; conv => arg 3; whnf)) | (refine n_brF ?_ ?_; (focus (first | (simp; done) | (simp; omega))); (refine st rfl ?_; conv => arg 3; whnf)) | (refine n_must (by (with_reducible refine and_shape ?_) <;> kernel_rfl) ?_; (refine st rfl ?_; conv => arg 3; whnf))))
      exact n_ret0 rfl rfl fun ids' w' hp hI' => ⟨rfl, hI'.frm⟩
    · (refine st rfl ?_; conv => arg 3; whnf)
      (repeat (first | (refine n_must rfl ?_; (refine st rfl ?_; conv => arg 3; whnf)) | (refine n_chk (drawF_ok (by decide +kernel)) ?_; (refine st rfl ?_; conv => arg 3; whnf)) | (refine n_same rfl ?_; (refine st rfl ?_; conv => arg 3; whnf)) | (refine n_brT ?_ ?_; (focus (simp <;> fail)); (refine st rfl ?_; conv => arg 3; whnf)) | (refine n_brF ?_ ?_; (focus (simp <;> fail)); (refine st rfl ?_; conv => arg 3; whnf))))
      refine n_callR (Y := Unit) 1 (fun _ => gossRes A.pg A.mg G') (fun _ => .tup [.int .i64 2, .agg [.int .i64 4, .int .i64 2], .bool true]) (fun _ => .tuple #[.int .i64 2, .agg #[.int .i64 4, .int .i64 2], .bool true]) (fun _ => True) rfl rfl (fun _ => rfl) rfl rfl rfl (fun _ w1 hp1 hI1 hR => (hT1 w1 hR (hI1.blk_at hp1 2 rfl rfl rfl) (hI1.res 3 rfl rfl) (hI1.ne_res 2 1 (by decide) rfl (pre_at hp1 rfl) rfl rfl rfl) (hI1.ne_res 2 3 (by decide) rfl (pre_at hp1 rfl) rfl rfl rfl) (hI1.res_res 1 3 (by decide) rfl rfl rfl rfl)).mono fun e w' ⟨he, hf⟩ => ⟨(), he, trivial, hf⟩) ?_
      intro _ _
      (refine st rfl ?_; conv => arg 3; whnf)
      (repeat (first | (refine n_must rfl ?_; (refine st rfl ?_; conv => arg 3; whnf)) | (refine n_chk (drawF_ok (by decide +kernel)) ?_; (refine st rfl ?_; conv => arg 3; whnf)) | (refine n_same rfl ?_; (refine st rfl ?_; conv => arg 3; whnf)) | (refine n_must ?_ ?_; (focus (first | (simp; done) | (simp; omega))); (refine st rfl ?_; conv => arg 3; whnf)) | (refine n_brT ?_ ?_; (focus (first | (simp; done) | (simp; omega))); (refine st rfl ?_; conv => arg 3; whnf)) | (refine n_brF ?_ ?_; (focus (first | (simp; done) | (simp; omega))); (refine st rfl ?_; conv => arg 3; whnf)) | (refine n_must (by (with_reducible refine and_shape ?_) <;> kernel_rfl) ?_; (refine st rfl ?_; conv => arg 3; whnf))))
      refine n_sameP (.bool true) rfl rfl rfl (fun _ w1 hp1 hI1 => (same_ok (4, 2) (4, 2) w1).mono fun e w' ⟨h1, h2⟩ => ⟨by simpa using h1, h2⟩) ?_; (refine st rfl ?_; conv => arg 3; whnf)
      (repeat (first | (refine n_must rfl ?_; (refine st rfl ?_; conv => arg 3; whnf)) | (refine n_chk (drawF_ok (by decide +kernel)) ?_; (refine st rfl ?_; conv => arg 3; whnf)) | (refine n_same rfl ?_; (refine st rfl ?_; conv => arg 3; whnf)) | (refine n_must ?_ ?_; (focus (first | (simp; done) | (simp; omega))); (refine st rfl ?_; conv => arg 3; whnf)) | (refine n_brT ?_ ?_; (focus (first | (simp; done) | (simp; omega))); (refine st rfl ?_; conv => arg 3; whnf)) | (refine n_brF ?_ ?_; (focus (first | (simp; done) | (simp; omega))); (refine st rfl ?_; conv => arg 3; whnf)) | (refine n_must (by (with_reducible refine and_shape ?_) <;> kernel_rfl) ?_; (refine st rfl ?_; conv => arg 3; whnf))))
      exact n_ret0 rfl rfl fun ids' w' hp hI' => ⟨rfl, hI'.frm⟩

structure Op6 where
  k : Int
  who : Int
  a : Int
  nm : ByteArray
  d : Int
  u : Int
abbrev Op6.cells (x : Op6) : List Value := [.int .i64 x.k, .int .i64 x.who, .int .i64 x.a, .string x.nm, .int .i64 x.d, .int .i64 x.u]
structure Scr (w : World) (o : Option Addr) (n : Nat) (f : Nat → Op6) : Prop where
  sl : RawSl w w.heap.size 6 o n fun i => (f i).cells
  len : n ≤ 9223372036854775807
  fit : ∀ i, i < n → i64 (f i).a ∧ (f i).nm.size ≤ maxLen
theorem aggOp6 : aggB Tryd.prog 40 = some true := by kernel_rfl
theorem Scr.load {w : World} {o : Option Addr} {n : Nat} {f : Nat → Op6} (h : Scr w o n f) {i : Nat} (hi : i < n) : ∃ ad, o = some ad ∧ ∀ w', Frm [] w w' → (loadVar 40 (ad.add (i * 6))).run Tryd.prog w' = .ok (.agg (opV (f i).k (f i).who (f i).a (f i).nm (f i).d (f i).u)) w' := by
  obtain ⟨ad, h1, h2, h3, h4⟩ := h.sl i hi
  refine ⟨ad, h1, fun w' hf => ?_⟩
  obtain ⟨ad', h1', _, _, h5⟩ := h.sl.frm hf (Nat.le_refl _) (by simp) i hi
  rw [h1] at h1'; simp at h1'; subst h1'
  exact load_row (l := (f i).cells) aggOp6 opParts fun j u hu => by rw [add_add]; exact h5 j u hu
theorem Scr.frm {w w' : World} {o : Option Addr} {n : Nat} {f : Nat → Op6} (h : Scr w o n f) (hf : Frm [] w w') : Scr w' o n f :=
  ⟨fun i hi => by
    obtain ⟨ad, h1, h2, h3, h4⟩ := h.sl.frm hf (Nat.le_refl _) (by simp) i hi
    exact ⟨ad, h1, Nat.lt_of_lt_of_le h2 hf.size, h3, h4⟩, h.len, h.fit⟩

def PS.op (S : PS) (r : Nat) (x : Op6) : PS := S.play r x.k x.a x.nm x.d x.u
/-- A pair that the loop carries. -/
structure Car (b0 r K : Nat) (A : PA) (s : PO × PS) : Prop where
  fp : ∀ x ∈ (pairRes A s.1 s.2).fp, b0 ≤ x
  ok : s.2.ok r K
theorem Car.more {b0 r K : Nat} {A : PA} {s : PO × PS} (h : Car b0 r K A s) : Car b0 r (K + 1) A s := ⟨h.fp, h.ok.mono (by omega)⟩
abbrev carB (A : PA) (s : PO × PS) : SBlk := ⟨55, [.res (pairRes A s.1 s.2)], true⟩
theorem played_car {b0 r K : Nat} {A : PA} {s : PO × PS} {w : World} {a0 a1 a2 : Addr} (hs : Sents b0 w a0 a1 a2) (hB : b0 ≤ w.heap.size) (hR : (pairRes A s.1 s.2).R w) (h : Car b0 r K A s) (hK : K ≤ 1000) (x : Op6) (ha : i64 x.a) (hnm : x.nm.size ≤ maxLen) :
    Calls Tryd.prog 18 #[pV A.p, .agg (opV x.k x.who x.a x.nm x.d x.u)] w fun e w' => ∃ O' : PO, e = .returned (.bool true) ∧ Car b0 r (K + 1) A (O', s.2.op r x) ∧ Post (pairRes A s.1 s.2) (pairRes A O' (s.2.op r x)) w w' :=
  (played_on hs h.fp hB hR h.ok hK x.k x.who x.a x.nm x.d x.u ha hnm).mono fun e w' ⟨O', he, hc, hP⟩ => ⟨O', he, ⟨hc.1, hc.2⟩, hP⟩


theorem prun_both {b0 : Nat} {w : World} {a0 a1 a2 : Addr} (hs : Sents b0 w a0 a1 a2) (hB : b0 ≤ w.heap.size) (me pe lo up : Int) (r : Nat) (hx : newErr me r = 0) (hy : newErr pe r = 0) {o : Option Addr} {n cap : Nat} {f : Nat → Op6} (hsc : Scr w o n f) :
    Calls Tryd.prog 7 #[.int .i64 me, .int .i64 pe, .int .i64 (r : Nat), .slice o n cap, .int .i64 lo, .int .i64 up] w fun e w' => e = .returned (.bool true) ∧ Frm [] w w' := by
  have hI := Inv.nil (P := Tryd.prog) (N := 92) (S := []) (os := []) w
  have hsf : ∀ {c : Ctx} {w1 : World} {ids' : List Nat} {m : Mem}, c.S = [] → c.w0 = w → Inv c w1 ids' m → Sents b0 w1 a0 a1 a2 ∧ b0 ≤ w1.heap.size := by
    rintro c w1 ids' m h1 rfl hI1
    exact ⟨hs.frm hI1.frm (by rw [h1]; simp) hB, Nat.le_trans hB hI1.frm.size⟩
  have hlen := hsc.len
  refine calls_sm (cx 92 [] [] w) (vals := [.int .i64 me, .int .i64 pe, .int .i64 (r : Nat), .raw (.slice o n cap), .int .i64 lo, .int .i64 up]) mixed Tryd.func7 rfl rfl rfl hI rfl (st rfl ?_); conv => arg 3; whnf
  (repeat (first | (refine n_must rfl ?_; (refine st rfl ?_; conv => arg 3; whnf)) | (refine n_chk (drawF_ok (by decide +kernel)) ?_; (refine st rfl ?_; conv => arg 3; whnf)) | (refine n_same rfl ?_; (refine st rfl ?_; conv => arg 3; whnf)) | (refine n_brT ?_ ?_; (focus (simp <;> fail)); (refine st rfl ?_; conv => arg 3; whnf)) | (refine n_brF ?_ ?_; (focus (simp <;> fail)); (refine st rfl ?_; conv => arg 3; whnf))))
  refine n_sameP (.lit true) rfl rfl rfl (fun _ w1 hp1 hI1 => alive_ok (hsf rfl rfl hI1).1 (hsf rfl rfl hI1).2) ?_; (refine st rfl ?_; conv => arg 3; whnf)
  (repeat (first | (refine n_must rfl ?_; (refine st rfl ?_; conv => arg 3; whnf)) | (refine n_chk (drawF_ok (by decide +kernel)) ?_; (refine st rfl ?_; conv => arg 3; whnf)) | (refine n_same rfl ?_; (refine st rfl ?_; conv => arg 3; whnf)) | (refine n_brT ?_ ?_; (focus (simp <;> fail)); (refine st rfl ?_; conv => arg 3; whnf)) | (refine n_brF ?_ ?_; (focus (simp <;> fail)); (refine st rfl ?_; conv => arg 3; whnf))))
  refine n_callN (Y := PA) (fun A => pairRes A PO0 (PS.fresh me r)) 55 (fun A => .tup [.raw (pV A.p), .lit true]) (fun A => .tuple #[pV A.p, .bool true]) (fun _ => True) rfl rfl rfl (fun _ => rfl) (fun w1 _ => pmade_good hx w1) ?_
  intro A _ hfA
  (refine st rfl ?_; conv => arg 3; whnf)
  (repeat (first | (refine n_must rfl ?_; (refine st rfl ?_; conv => arg 3; whnf)) | (refine n_chk (drawF_ok (by decide +kernel)) ?_; (refine st rfl ?_; conv => arg 3; whnf)) | (refine n_same rfl ?_; (refine st rfl ?_; conv => arg 3; whnf)) | (refine n_brT ?_ ?_; (focus (simp <;> fail)); (refine st rfl ?_; conv => arg 3; whnf)) | (refine n_brF ?_ ?_; (focus (simp <;> fail)); (refine st rfl ?_; conv => arg 3; whnf))))
  refine n_callN (Y := PA) (fun A => pairRes A PO0 (PS.fresh pe r)) 55 (fun A => .tup [.raw (pV A.p), .lit true]) (fun A => .tuple #[pV A.p, .bool true]) (fun _ => True) rfl rfl rfl (fun _ => rfl) (fun w1 _ => pmade_good hy w1) ?_
  intro B _ hfB
  (refine st rfl ?_; conv => arg 3; whnf)
  (repeat (first | (refine n_must rfl ?_; (refine st rfl ?_; conv => arg 3; whnf)) | (refine n_chk (drawF_ok (by decide +kernel)) ?_; (refine st rfl ?_; conv => arg 3; whnf)) | (refine n_same rfl ?_; (refine st rfl ?_; conv => arg 3; whnf)) | (refine n_brT ?_ ?_; (focus (simp <;> fail)); (refine st rfl ?_; conv => arg 3; whnf)) | (refine n_brF ?_ ?_; (focus (simp <;> fail)); (refine st rfl ?_; conv => arg 3; whnf))))
  refine n_loop (σ := Nat × (PO × PS) × (PO × PS)) (fun s => [(3, .raw (.slice o n cap)), (4, .int .i64 lo), (5, .int .i64 up), (14, .raw (pV A.p)), (16, .raw (pV B.p)), (18, .int .i64 (s.1 : Nat))]) (fun s => [carB A s.2.1, carB B s.2.2]) (fun s => s.1 ≤ n ∧ s.1 ≤ 200 ∧ Car b0 r s.1 A s.2.1 ∧ Car b0 r s.1 B s.2.2) (fun s => n - s.1) (0, (PO0, PS.fresh me r), (PO0, PS.fresh pe r)) mixed ⟨by simp, by simp, ⟨fun x hx => Nat.le_trans hB (hfA x hx), PS.fresh_ok hx⟩, ⟨fun x hx => Nat.le_trans hB (hfB x hx), PS.fresh_ok hy⟩⟩ (fun _ _ => rfl) rfl (by (repeat (first | exact trivial | refine ⟨⟨rfl, rfl⟩, ?_⟩))) (fun s _ => ⟨by (repeat (first | exact trivial | refine ⟨⟨_, rfl⟩, ?_⟩)), by (repeat (first | exact trivial | refine ⟨⟨_, rfl⟩, ?_⟩))⟩) fun s hJ => ?_
  obtain ⟨i, sA, sB⟩ := s
  obtain ⟨hi, hi2, hcA, hcB⟩ := hJ
  dsimp only at hi hi2 hcA hcB ⊢
  (refine st rfl ?_; conv => arg 3; whnf)
  by_cases hlt : i < n ∧ i < 200
  · obtain ⟨h1, h2⟩ := hlt
    have ei : IntKind.i64.wrap ((i : Int) + 1) = ((i + 1 : Nat) : Int) := by rw [w64 (by omega) (by omega)]; simp
    obtain ⟨ad, rfl, hload⟩ := hsc.load h1
    (repeat (first | (refine n_must rfl ?_; (refine st rfl ?_; conv => arg 3; whnf)) | (refine n_chk (drawF_ok (by decide +kernel)) ?_; (refine st rfl ?_; conv => arg 3; whnf)) | (refine n_same rfl ?_; (refine st rfl ?_; conv => arg 3; whnf)) | (refine n_must ?_ ?_; (focus (first | (simp; done) | (simp; omega))); (refine st rfl ?_; conv => arg 3; whnf)) | (refine n_brT ?_ ?_; (focus (first | (simp; done) | (simp; omega))); (refine st rfl ?_; conv => arg 3; whnf)) | (refine n_brF ?_ ?_; (focus (first | (simp; done) | (simp; omega))); (refine st rfl ?_; conv => arg 3; whnf)) | (refine n_must (by (with_reducible refine and_shape ?_) <;> kernel_rfl) ?_; (refine st rfl ?_; conv => arg 3; whnf))))
    refine n_ld (.agg (opS (f i).k (f i).who (f i).a (f i).nm (f i).d (f i).u)) rfl rfl hload ?_
    (refine st rfl ?_; conv => arg 3; whnf)
    by_cases hw : (f i).who = 1
    · (repeat (first | (refine n_must rfl ?_; (refine st rfl ?_; conv => arg 3; whnf)) | (refine n_chk (drawF_ok (by decide +kernel)) ?_; (refine st rfl ?_; conv => arg 3; whnf)) | (refine n_same rfl ?_; (refine st rfl ?_; conv => arg 3; whnf)) | (refine n_must ?_ ?_; (focus (first | (simp [hw]; done) | (simp [hw]; omega) | (simp only [hw]; simp; done))); (refine st rfl ?_; conv => arg 3; whnf)) | (refine n_brT ?_ ?_; (focus (first | (simp [hw]; done) | (simp [hw]; omega) | (simp only [hw]; simp; done))); (refine st rfl ?_; conv => arg 3; whnf)) | (refine n_brF ?_ ?_; (focus (first | (simp [hw]; done) | (simp [hw]; omega) | (simp only [hw]; simp; done))); (refine st rfl ?_; conv => arg 3; whnf)) | (refine n_must (by (with_reducible refine and_shape ?_) <;> kernel_rfl) ?_; (refine st rfl ?_; conv => arg 3; whnf))))
      by_cases hk : 2 ≤ (f i).k ∧ (f i).k ≤ 4 ∧ ((f i).k < lo ∨ up < (f i).k)
      · (repeat' (first | (refine n_must rfl ?_; (refine st rfl ?_; conv => arg 3; whnf)) | (refine n_chk (drawF_ok (by decide +kernel)) ?_; (refine st rfl ?_; conv => arg 3; whnf)) | (refine n_same rfl ?_; (refine st rfl ?_; conv => arg 3; whnf)) | (refine n_must ?_ ?_; (focus (first | (simp; done) | (simp; omega))); (refine st rfl ?_; conv => arg 3; whnf)) | (refine n_brT ?_ ?_; (focus (first | (simp; done) | (simp; omega))); (refine st rfl ?_; conv => arg 3; whnf)) | (refine n_brF ?_ ?_; (focus (first | (simp; done) | (simp; omega))); (refine st rfl ?_; conv => arg 3; whnf)) | (refine n_br (fun hbr => ?_) (fun hbr => ?_) <;> simp at hbr <;> (refine st rfl ?_; conv => arg 3; whnf))))
        all_goals
          exact n_again ⟨(i + 1, sA, sB), ⟨by dsimp only; omega, by dsimp only; omega, hcA.more, hcB.more⟩, by dsimp only; omega, (by (repeat (first | exact trivial | refine ⟨⟨rfl, rfl⟩, ?_⟩ | refine ⟨⟨rfl, congrArg (SV.int .i64) ei⟩, ?_⟩))), ⟨_, rfl⟩⟩
      · (repeat' (first | (refine n_must rfl ?_; (refine st rfl ?_; conv => arg 3; whnf)) | (refine n_chk (drawF_ok (by decide +kernel)) ?_; (refine st rfl ?_; conv => arg 3; whnf)) | (refine n_same rfl ?_; (refine st rfl ?_; conv => arg 3; whnf)) | (refine n_must ?_ ?_; (focus (first | (simp; done) | (simp; omega))); (refine st rfl ?_; conv => arg 3; whnf)) | (refine n_brT ?_ ?_; (focus (first | (simp; done) | (simp; omega))); (refine st rfl ?_; conv => arg 3; whnf)) | (refine n_brF ?_ ?_; (focus (first | (simp; done) | (simp; omega))); (refine st rfl ?_; conv => arg 3; whnf)) | (refine n_br (fun hbr => ?_) (fun hbr => ?_) <;> simp at hbr <;> (refine st rfl ?_; conv => arg 3; whnf))))
        all_goals
          refine n_callR (Y := PO) 1 (fun O' => pairRes B O' (sB.2.op r (f i))) (fun _ => .lit true) (fun _ => .bool true) (fun O' => Car b0 r (i + 1) B (O', sB.2.op r (f i))) rfl rfl (fun _ => rfl) rfl rfl rfl (fun _ w1 hp1 hI1 hR => played_car (hsf rfl rfl hI1).1 (hsf rfl rfl hI1).2 hR hcB (by omega) (f i) (hsc.fit i h1).1 (hsc.fit i h1).2) ?_
          intro O' hO'
          (refine st rfl ?_; conv => arg 3; whnf)
          (repeat (first | (refine n_must rfl ?_; (refine st rfl ?_; conv => arg 3; whnf)) | (refine n_chk (drawF_ok (by decide +kernel)) ?_; (refine st rfl ?_; conv => arg 3; whnf)) | (refine n_same rfl ?_; (refine st rfl ?_; conv => arg 3; whnf)) | (refine n_must ?_ ?_; (focus (first | (simp; done) | (simp; omega))); (refine st rfl ?_; conv => arg 3; whnf)) | (refine n_brT ?_ ?_; (focus (first | (simp; done) | (simp; omega))); (refine st rfl ?_; conv => arg 3; whnf)) | (refine n_brF ?_ ?_; (focus (first | (simp; done) | (simp; omega))); (refine st rfl ?_; conv => arg 3; whnf)) | (refine n_must (by (with_reducible refine and_shape ?_) <;> kernel_rfl) ?_; (refine st rfl ?_; conv => arg 3; whnf))))
          exact n_again ⟨(i + 1, sA, (O', sB.2.op r (f i))), ⟨by dsimp only; omega, by dsimp only; omega, hcA.more, hO'⟩, by dsimp only; omega, (by (repeat (first | exact trivial | refine ⟨⟨rfl, rfl⟩, ?_⟩ | refine ⟨⟨rfl, congrArg (SV.int .i64) ei⟩, ?_⟩))), ⟨_, rfl⟩⟩
    · (repeat (first | (refine n_must rfl ?_; (refine st rfl ?_; conv => arg 3; whnf)) | (refine n_chk (drawF_ok (by decide +kernel)) ?_; (refine st rfl ?_; conv => arg 3; whnf)) | (refine n_same rfl ?_; (refine st rfl ?_; conv => arg 3; whnf)) | (refine n_must ?_ ?_; (focus (first | (simp [hw]; done) | (simp [hw]; omega) | (simp only [hw]; simp; done))); (refine st rfl ?_; conv => arg 3; whnf)) | (refine n_brT ?_ ?_; (focus (first | (simp [hw]; done) | (simp [hw]; omega) | (simp only [hw]; simp; done))); (refine st rfl ?_; conv => arg 3; whnf)) | (refine n_brF ?_ ?_; (focus (first | (simp [hw]; done) | (simp [hw]; omega) | (simp only [hw]; simp; done))); (refine st rfl ?_; conv => arg 3; whnf)) | (refine n_must (by (with_reducible refine and_shape ?_) <;> kernel_rfl) ?_; (refine st rfl ?_; conv => arg 3; whnf))))
      by_cases hk : 2 ≤ (f i).k ∧ (f i).k ≤ 4 ∧ ((f i).k < lo ∨ up < (f i).k)
      · (repeat' (first | (refine n_must rfl ?_; (refine st rfl ?_; conv => arg 3; whnf)) | (refine n_chk (drawF_ok (by decide +kernel)) ?_; (refine st rfl ?_; conv => arg 3; whnf)) | (refine n_same rfl ?_; (refine st rfl ?_; conv => arg 3; whnf)) | (refine n_must ?_ ?_; (focus (first | (simp; done) | (simp; omega))); (refine st rfl ?_; conv => arg 3; whnf)) | (refine n_brT ?_ ?_; (focus (first | (simp; done) | (simp; omega))); (refine st rfl ?_; conv => arg 3; whnf)) | (refine n_brF ?_ ?_; (focus (first | (simp; done) | (simp; omega))); (refine st rfl ?_; conv => arg 3; whnf)) | (refine n_br (fun hbr => ?_) (fun hbr => ?_) <;> simp at hbr <;> (refine st rfl ?_; conv => arg 3; whnf))))
        all_goals
          exact n_again ⟨(i + 1, sA, sB), ⟨by dsimp only; omega, by dsimp only; omega, hcA.more, hcB.more⟩, by dsimp only; omega, (by (repeat (first | exact trivial | refine ⟨⟨rfl, rfl⟩, ?_⟩ | refine ⟨⟨rfl, congrArg (SV.int .i64) ei⟩, ?_⟩))), ⟨_, rfl⟩⟩
      · (repeat' (first | (refine n_must rfl ?_; (refine st rfl ?_; conv => arg 3; whnf)) | (refine n_chk (drawF_ok (by decide +kernel)) ?_; (refine st rfl ?_; conv => arg 3; whnf)) | (refine n_same rfl ?_; (refine st rfl ?_; conv => arg 3; whnf)) | (refine n_must ?_ ?_; (focus (first | (simp; done) | (simp; omega))); (refine st rfl ?_; conv => arg 3; whnf)) | (refine n_brT ?_ ?_; (focus (first | (simp; done) | (simp; omega))); (refine st rfl ?_; conv => arg 3; whnf)) | (refine n_brF ?_ ?_; (focus (first | (simp; done) | (simp; omega))); (refine st rfl ?_; conv => arg 3; whnf)) | (refine n_br (fun hbr => ?_) (fun hbr => ?_) <;> simp at hbr <;> (refine st rfl ?_; conv => arg 3; whnf))))
        all_goals
          refine n_callR (Y := PO) 0 (fun O' => pairRes A O' (sA.2.op r (f i))) (fun _ => .lit true) (fun _ => .bool true) (fun O' => Car b0 r (i + 1) A (O', sA.2.op r (f i))) rfl rfl (fun _ => rfl) rfl rfl rfl (fun _ w1 hp1 hI1 hR => played_car (hsf rfl rfl hI1).1 (hsf rfl rfl hI1).2 hR hcA (by omega) (f i) (hsc.fit i h1).1 (hsc.fit i h1).2) ?_
          intro O' hO'
          (refine st rfl ?_; conv => arg 3; whnf)
          (repeat (first | (refine n_must rfl ?_; (refine st rfl ?_; conv => arg 3; whnf)) | (refine n_chk (drawF_ok (by decide +kernel)) ?_; (refine st rfl ?_; conv => arg 3; whnf)) | (refine n_same rfl ?_; (refine st rfl ?_; conv => arg 3; whnf)) | (refine n_must ?_ ?_; (focus (first | (simp; done) | (simp; omega))); (refine st rfl ?_; conv => arg 3; whnf)) | (refine n_brT ?_ ?_; (focus (first | (simp; done) | (simp; omega))); (refine st rfl ?_; conv => arg 3; whnf)) | (refine n_brF ?_ ?_; (focus (first | (simp; done) | (simp; omega))); (refine st rfl ?_; conv => arg 3; whnf)) | (refine n_must (by (with_reducible refine and_shape ?_) <;> kernel_rfl) ?_; (refine st rfl ?_; conv => arg 3; whnf))))
          exact n_again ⟨(i + 1, (O', sA.2.op r (f i)), sB), ⟨by dsimp only; omega, by dsimp only; omega, hO', hcB.more⟩, by dsimp only; omega, (by (repeat (first | exact trivial | refine ⟨⟨rfl, rfl⟩, ?_⟩ | refine ⟨⟨rfl, congrArg (SV.int .i64) ei⟩, ?_⟩))), ⟨_, rfl⟩⟩
  · (repeat' (first | (refine n_must rfl ?_; (refine st rfl ?_; conv => arg 3; whnf)) | (refine n_chk (drawF_ok (by decide +kernel)) ?_; (refine st rfl ?_; conv => arg 3; whnf)) | (refine n_same rfl ?_; (refine st rfl ?_; conv => arg 3; whnf)) | (refine n_must ?_ ?_; (focus (first | (simp; done) | (simp; omega))); (refine st rfl ?_; conv => arg 3; whnf)) | (refine n_brT ?_ ?_; (focus (first | (simp; done) | (simp; omega))); (refine st rfl ?_; conv => arg 3; whnf)) | (refine n_brF ?_ ?_; (focus (first | (simp; done) | (simp; omega))); (refine st rfl ?_; conv => arg 3; whnf)) | (refine n_br (fun hbr => ?_) (fun hbr => ?_) <;> simp at hbr <;> (refine st rfl ?_; conv => arg 3; whnf))))
    all_goals
      refine n_exit rfl ?_
      (refine st rfl ?_; conv => arg 3; whnf)
      (repeat (first | (refine n_must rfl ?_; (refine st rfl ?_; conv => arg 3; whnf)) | (refine n_chk (drawF_ok (by decide +kernel)) ?_; (refine st rfl ?_; conv => arg 3; whnf)) | (refine n_same rfl ?_; (refine st rfl ?_; conv => arg 3; whnf)) | (refine n_brT ?_ ?_; (focus (simp <;> fail)); (refine st rfl ?_; conv => arg 3; whnf)) | (refine n_brF ?_ ?_; (focus (simp <;> fail)); (refine st rfl ?_; conv => arg 3; whnf))))
      exact n_ret0 rfl rfl fun ids' w' hp hI' => ⟨rfl, hI'.frm⟩

theorem prun_left {b0 : Nat} {w : World} {a0 a1 a2 : Addr} (hs : Sents b0 w a0 a1 a2) (hB : b0 ≤ w.heap.size) (me pe lo up : Int) (r : Nat) (hx : newErr me r = 0) (hy : newErr pe r ≠ 0) {o : Option Addr} {n cap : Nat} {f : Nat → Op6} (hsc : Scr w o n f) :
    Calls Tryd.prog 7 #[.int .i64 me, .int .i64 pe, .int .i64 (r : Nat), .slice o n cap, .int .i64 lo, .int .i64 up] w fun e w' => e = .returned (.bool true) ∧ Frm [] w w' := by
  have hI := Inv.nil (P := Tryd.prog) (N := 92) (S := []) (os := []) w
  have hsf : ∀ {c : Ctx} {w1 : World} {ids' : List Nat} {m : Mem}, c.S = [] → c.w0 = w → Inv c w1 ids' m → Sents b0 w1 a0 a1 a2 ∧ b0 ≤ w1.heap.size := by
    rintro c w1 ids' m h1 rfl hI1
    exact ⟨hs.frm hI1.frm (by rw [h1]; simp) hB, Nat.le_trans hB hI1.frm.size⟩
  have hlen := hsc.len
  refine calls_sm (cx 92 [] [] w) (vals := [.int .i64 me, .int .i64 pe, .int .i64 (r : Nat), .raw (.slice o n cap), .int .i64 lo, .int .i64 up]) mixed Tryd.func7 rfl rfl rfl hI rfl (st rfl ?_); conv => arg 3; whnf
  (repeat (first | (refine n_must rfl ?_; (refine st rfl ?_; conv => arg 3; whnf)) | (refine n_chk (drawF_ok (by decide +kernel)) ?_; (refine st rfl ?_; conv => arg 3; whnf)) | (refine n_same rfl ?_; (refine st rfl ?_; conv => arg 3; whnf)) | (refine n_brT ?_ ?_; (focus (simp <;> fail)); (refine st rfl ?_; conv => arg 3; whnf)) | (refine n_brF ?_ ?_; (focus (simp <;> fail)); (refine st rfl ?_; conv => arg 3; whnf))))
  refine n_sameP (.lit true) rfl rfl rfl (fun _ w1 hp1 hI1 => alive_ok (hsf rfl rfl hI1).1 (hsf rfl rfl hI1).2) ?_; (refine st rfl ?_; conv => arg 3; whnf)
  (repeat (first | (refine n_must rfl ?_; (refine st rfl ?_; conv => arg 3; whnf)) | (refine n_chk (drawF_ok (by decide +kernel)) ?_; (refine st rfl ?_; conv => arg 3; whnf)) | (refine n_same rfl ?_; (refine st rfl ?_; conv => arg 3; whnf)) | (refine n_brT ?_ ?_; (focus (simp <;> fail)); (refine st rfl ?_; conv => arg 3; whnf)) | (refine n_brF ?_ ?_; (focus (simp <;> fail)); (refine st rfl ?_; conv => arg 3; whnf))))
  refine n_callN (Y := PA) (fun A => pairRes A PO0 (PS.fresh me r)) 55 (fun A => .tup [.raw (pV A.p), .lit true]) (fun A => .tuple #[pV A.p, .bool true]) (fun _ => True) rfl rfl rfl (fun _ => rfl) (fun w1 _ => pmade_good hx w1) ?_
  intro A _ hfA
  (refine st rfl ?_; conv => arg 3; whnf)
  (repeat (first | (refine n_must rfl ?_; (refine st rfl ?_; conv => arg 3; whnf)) | (refine n_chk (drawF_ok (by decide +kernel)) ?_; (refine st rfl ?_; conv => arg 3; whnf)) | (refine n_same rfl ?_; (refine st rfl ?_; conv => arg 3; whnf)) | (refine n_brT ?_ ?_; (focus (simp <;> fail)); (refine st rfl ?_; conv => arg 3; whnf)) | (refine n_brF ?_ ?_; (focus (simp <;> fail)); (refine st rfl ?_; conv => arg 3; whnf))))
  refine n_sameP (.tup [.nilp, .lit true]) rfl rfl rfl (fun _ w1 hp1 hI1 => pmade_bad hy w1) ?_; (refine st rfl ?_; conv => arg 3; whnf)
  (repeat (first | (refine n_must rfl ?_; (refine st rfl ?_; conv => arg 3; whnf)) | (refine n_chk (drawF_ok (by decide +kernel)) ?_; (refine st rfl ?_; conv => arg 3; whnf)) | (refine n_same rfl ?_; (refine st rfl ?_; conv => arg 3; whnf)) | (refine n_brT ?_ ?_; (focus (simp <;> fail)); (refine st rfl ?_; conv => arg 3; whnf)) | (refine n_brF ?_ ?_; (focus (simp <;> fail)); (refine st rfl ?_; conv => arg 3; whnf))))
  refine n_loop (σ := Nat × (PO × PS)) (fun s => [(3, .raw (.slice o n cap)), (4, .int .i64 lo), (5, .int .i64 up), (14, .raw (pV A.p)), (16, .nilp), (18, .int .i64 (s.1 : Nat))]) (fun s => [carB A s.2]) (fun s => s.1 ≤ n ∧ s.1 ≤ 200 ∧ Car b0 r s.1 A s.2) (fun s => n - s.1) (0, (PO0, PS.fresh me r)) mixed ⟨by simp, by simp, ⟨fun x hx => Nat.le_trans hB (hfA x hx), PS.fresh_ok hx⟩⟩ (fun _ _ => rfl) rfl (by (repeat (first | exact trivial | refine ⟨⟨rfl, rfl⟩, ?_⟩))) (fun s _ => ⟨by (repeat (first | exact trivial | refine ⟨⟨_, rfl⟩, ?_⟩)), by (repeat (first | exact trivial | refine ⟨⟨_, rfl⟩, ?_⟩))⟩) fun s hJ => ?_
  obtain ⟨i, sA⟩ := s
  obtain ⟨hi, hi2, hcA⟩ := hJ
  dsimp only at hi hi2 hcA ⊢
  (refine st rfl ?_; conv => arg 3; whnf)
  by_cases hlt : i < n ∧ i < 200
  · obtain ⟨h1, h2⟩ := hlt
    have ei : IntKind.i64.wrap ((i : Int) + 1) = ((i + 1 : Nat) : Int) := by rw [w64 (by omega) (by omega)]; simp
    obtain ⟨ad, rfl, hload⟩ := hsc.load h1
    (repeat (first | (refine n_must rfl ?_; (refine st rfl ?_; conv => arg 3; whnf)) | (refine n_chk (drawF_ok (by decide +kernel)) ?_; (refine st rfl ?_; conv => arg 3; whnf)) | (refine n_same rfl ?_; (refine st rfl ?_; conv => arg 3; whnf)) | (refine n_must ?_ ?_; (focus (first | (simp; done) | (simp; omega))); (refine st rfl ?_; conv => arg 3; whnf)) | (refine n_brT ?_ ?_; (focus (first | (simp; done) | (simp; omega))); (refine st rfl ?_; conv => arg 3; whnf)) | (refine n_brF ?_ ?_; (focus (first | (simp; done) | (simp; omega))); (refine st rfl ?_; conv => arg 3; whnf)) | (refine n_must (by (with_reducible refine and_shape ?_) <;> kernel_rfl) ?_; (refine st rfl ?_; conv => arg 3; whnf))))
    refine n_ld (.agg (opS (f i).k (f i).who (f i).a (f i).nm (f i).d (f i).u)) rfl rfl hload ?_
    (refine st rfl ?_; conv => arg 3; whnf)
    by_cases hw : (f i).who = 1
    · (repeat (first | (refine n_must rfl ?_; (refine st rfl ?_; conv => arg 3; whnf)) | (refine n_chk (drawF_ok (by decide +kernel)) ?_; (refine st rfl ?_; conv => arg 3; whnf)) | (refine n_same rfl ?_; (refine st rfl ?_; conv => arg 3; whnf)) | (refine n_must ?_ ?_; (focus (first | (simp [hw]; done) | (simp [hw]; omega) | (simp only [hw]; simp; done))); (refine st rfl ?_; conv => arg 3; whnf)) | (refine n_brT ?_ ?_; (focus (first | (simp [hw]; done) | (simp [hw]; omega) | (simp only [hw]; simp; done))); (refine st rfl ?_; conv => arg 3; whnf)) | (refine n_brF ?_ ?_; (focus (first | (simp [hw]; done) | (simp [hw]; omega) | (simp only [hw]; simp; done))); (refine st rfl ?_; conv => arg 3; whnf)) | (refine n_must (by (with_reducible refine and_shape ?_) <;> kernel_rfl) ?_; (refine st rfl ?_; conv => arg 3; whnf))))
      exact n_again ⟨(i + 1, sA), ⟨by dsimp only; omega, by dsimp only; omega, hcA.more⟩, by dsimp only; omega, (by (repeat (first | exact trivial | refine ⟨⟨rfl, rfl⟩, ?_⟩ | refine ⟨⟨rfl, congrArg (SV.int .i64) ei⟩, ?_⟩))), ⟨_, rfl⟩⟩
    · (repeat (first | (refine n_must rfl ?_; (refine st rfl ?_; conv => arg 3; whnf)) | (refine n_chk (drawF_ok (by decide +kernel)) ?_; (refine st rfl ?_; conv => arg 3; whnf)) | (refine n_same rfl ?_; (refine st rfl ?_; conv => arg 3; whnf)) | (refine n_must ?_ ?_; (focus (first | (simp [hw]; done) | (simp [hw]; omega) | (simp only [hw]; simp; done))); (refine st rfl ?_; conv => arg 3; whnf)) | (refine n_brT ?_ ?_; (focus (first | (simp [hw]; done) | (simp [hw]; omega) | (simp only [hw]; simp; done))); (refine st rfl ?_; conv => arg 3; whnf)) | (refine n_brF ?_ ?_; (focus (first | (simp [hw]; done) | (simp [hw]; omega) | (simp only [hw]; simp; done))); (refine st rfl ?_; conv => arg 3; whnf)) | (refine n_must (by (with_reducible refine and_shape ?_) <;> kernel_rfl) ?_; (refine st rfl ?_; conv => arg 3; whnf))))
      by_cases hk : 2 ≤ (f i).k ∧ (f i).k ≤ 4 ∧ ((f i).k < lo ∨ up < (f i).k)
      · (repeat' (first | (refine n_must rfl ?_; (refine st rfl ?_; conv => arg 3; whnf)) | (refine n_chk (drawF_ok (by decide +kernel)) ?_; (refine st rfl ?_; conv => arg 3; whnf)) | (refine n_same rfl ?_; (refine st rfl ?_; conv => arg 3; whnf)) | (refine n_must ?_ ?_; (focus (first | (simp; done) | (simp; omega))); (refine st rfl ?_; conv => arg 3; whnf)) | (refine n_brT ?_ ?_; (focus (first | (simp; done) | (simp; omega))); (refine st rfl ?_; conv => arg 3; whnf)) | (refine n_brF ?_ ?_; (focus (first | (simp; done) | (simp; omega))); (refine st rfl ?_; conv => arg 3; whnf)) | (refine n_br (fun hbr => ?_) (fun hbr => ?_) <;> simp at hbr <;> (refine st rfl ?_; conv => arg 3; whnf))))
        all_goals
          exact n_again ⟨(i + 1, sA), ⟨by dsimp only; omega, by dsimp only; omega, hcA.more⟩, by dsimp only; omega, (by (repeat (first | exact trivial | refine ⟨⟨rfl, rfl⟩, ?_⟩ | refine ⟨⟨rfl, congrArg (SV.int .i64) ei⟩, ?_⟩))), ⟨_, rfl⟩⟩
      · (repeat' (first | (refine n_must rfl ?_; (refine st rfl ?_; conv => arg 3; whnf)) | (refine n_chk (drawF_ok (by decide +kernel)) ?_; (refine st rfl ?_; conv => arg 3; whnf)) | (refine n_same rfl ?_; (refine st rfl ?_; conv => arg 3; whnf)) | (refine n_must ?_ ?_; (focus (first | (simp; done) | (simp; omega))); (refine st rfl ?_; conv => arg 3; whnf)) | (refine n_brT ?_ ?_; (focus (first | (simp; done) | (simp; omega))); (refine st rfl ?_; conv => arg 3; whnf)) | (refine n_brF ?_ ?_; (focus (first | (simp; done) | (simp; omega))); (refine st rfl ?_; conv => arg 3; whnf)) | (refine n_br (fun hbr => ?_) (fun hbr => ?_) <;> simp at hbr <;> (refine st rfl ?_; conv => arg 3; whnf))))
        all_goals
          refine n_callR (Y := PO) 0 (fun O' => pairRes A O' (sA.2.op r (f i))) (fun _ => .lit true) (fun _ => .bool true) (fun O' => Car b0 r (i + 1) A (O', sA.2.op r (f i))) rfl rfl (fun _ => rfl) rfl rfl rfl (fun _ w1 hp1 hI1 hR => played_car (hsf rfl rfl hI1).1 (hsf rfl rfl hI1).2 hR hcA (by omega) (f i) (hsc.fit i h1).1 (hsc.fit i h1).2) ?_
          intro O' hO'
          (refine st rfl ?_; conv => arg 3; whnf)
          (repeat (first | (refine n_must rfl ?_; (refine st rfl ?_; conv => arg 3; whnf)) | (refine n_chk (drawF_ok (by decide +kernel)) ?_; (refine st rfl ?_; conv => arg 3; whnf)) | (refine n_same rfl ?_; (refine st rfl ?_; conv => arg 3; whnf)) | (refine n_must ?_ ?_; (focus (first | (simp; done) | (simp; omega))); (refine st rfl ?_; conv => arg 3; whnf)) | (refine n_brT ?_ ?_; (focus (first | (simp; done) | (simp; omega))); (refine st rfl ?_; conv => arg 3; whnf)) | (refine n_brF ?_ ?_; (focus (first | (simp; done) | (simp; omega))); (refine st rfl ?_; conv => arg 3; whnf)) | (refine n_must (by (with_reducible refine and_shape ?_) <;> kernel_rfl) ?_; (refine st rfl ?_; conv => arg 3; whnf))))
          exact n_again ⟨(i + 1, (O', sA.2.op r (f i))), ⟨by dsimp only; omega, by dsimp only; omega, hO'⟩, by dsimp only; omega, (by (repeat (first | exact trivial | refine ⟨⟨rfl, rfl⟩, ?_⟩ | refine ⟨⟨rfl, congrArg (SV.int .i64) ei⟩, ?_⟩))), ⟨_, rfl⟩⟩
  · (repeat' (first | (refine n_must rfl ?_; (refine st rfl ?_; conv => arg 3; whnf)) | (refine n_chk (drawF_ok (by decide +kernel)) ?_; (refine st rfl ?_; conv => arg 3; whnf)) | (refine n_same rfl ?_; (refine st rfl ?_; conv => arg 3; whnf)) | (refine n_must ?_ ?_; (focus (first | (simp; done) | (simp; omega))); (refine st rfl ?_; conv => arg 3; whnf)) | (refine n_brT ?_ ?_; (focus (first | (simp; done) | (simp; omega))); (refine st rfl ?_; conv => arg 3; whnf)) | (refine n_brF ?_ ?_; (focus (first | (simp; done) | (simp; omega))); (refine st rfl ?_; conv => arg 3; whnf)) | (refine n_br (fun hbr => ?_) (fun hbr => ?_) <;> simp at hbr <;> (refine st rfl ?_; conv => arg 3; whnf))))
    all_goals
      refine n_exit rfl ?_
      (refine st rfl ?_; conv => arg 3; whnf)
      (repeat (first | (refine n_must rfl ?_; (refine st rfl ?_; conv => arg 3; whnf)) | (refine n_chk (drawF_ok (by decide +kernel)) ?_; (refine st rfl ?_; conv => arg 3; whnf)) | (refine n_same rfl ?_; (refine st rfl ?_; conv => arg 3; whnf)) | (refine n_brT ?_ ?_; (focus (simp <;> fail)); (refine st rfl ?_; conv => arg 3; whnf)) | (refine n_brF ?_ ?_; (focus (simp <;> fail)); (refine st rfl ?_; conv => arg 3; whnf))))
      exact n_ret0 rfl rfl fun ids' w' hp hI' => ⟨rfl, hI'.frm⟩
theorem prun_right {b0 : Nat} {w : World} {a0 a1 a2 : Addr} (hs : Sents b0 w a0 a1 a2) (hB : b0 ≤ w.heap.size) (me pe lo up : Int) (r : Nat) (hx : newErr me r ≠ 0) (hy : newErr pe r = 0) {o : Option Addr} {n cap : Nat} {f : Nat → Op6} (hsc : Scr w o n f) :
    Calls Tryd.prog 7 #[.int .i64 me, .int .i64 pe, .int .i64 (r : Nat), .slice o n cap, .int .i64 lo, .int .i64 up] w fun e w' => e = .returned (.bool true) ∧ Frm [] w w' := by
  have hI := Inv.nil (P := Tryd.prog) (N := 92) (S := []) (os := []) w
  have hsf : ∀ {c : Ctx} {w1 : World} {ids' : List Nat} {m : Mem}, c.S = [] → c.w0 = w → Inv c w1 ids' m → Sents b0 w1 a0 a1 a2 ∧ b0 ≤ w1.heap.size := by
    rintro c w1 ids' m h1 rfl hI1
    exact ⟨hs.frm hI1.frm (by rw [h1]; simp) hB, Nat.le_trans hB hI1.frm.size⟩
  have hlen := hsc.len
  refine calls_sm (cx 92 [] [] w) (vals := [.int .i64 me, .int .i64 pe, .int .i64 (r : Nat), .raw (.slice o n cap), .int .i64 lo, .int .i64 up]) mixed Tryd.func7 rfl rfl rfl hI rfl (st rfl ?_); conv => arg 3; whnf
  (repeat (first | (refine n_must rfl ?_; (refine st rfl ?_; conv => arg 3; whnf)) | (refine n_chk (drawF_ok (by decide +kernel)) ?_; (refine st rfl ?_; conv => arg 3; whnf)) | (refine n_same rfl ?_; (refine st rfl ?_; conv => arg 3; whnf)) | (refine n_brT ?_ ?_; (focus (simp <;> fail)); (refine st rfl ?_; conv => arg 3; whnf)) | (refine n_brF ?_ ?_; (focus (simp <;> fail)); (refine st rfl ?_; conv => arg 3; whnf))))
  refine n_sameP (.lit true) rfl rfl rfl (fun _ w1 hp1 hI1 => alive_ok (hsf rfl rfl hI1).1 (hsf rfl rfl hI1).2) ?_; (refine st rfl ?_; conv => arg 3; whnf)
  (repeat (first | (refine n_must rfl ?_; (refine st rfl ?_; conv => arg 3; whnf)) | (refine n_chk (drawF_ok (by decide +kernel)) ?_; (refine st rfl ?_; conv => arg 3; whnf)) | (refine n_same rfl ?_; (refine st rfl ?_; conv => arg 3; whnf)) | (refine n_brT ?_ ?_; (focus (simp <;> fail)); (refine st rfl ?_; conv => arg 3; whnf)) | (refine n_brF ?_ ?_; (focus (simp <;> fail)); (refine st rfl ?_; conv => arg 3; whnf))))
  refine n_sameP (.tup [.nilp, .lit true]) rfl rfl rfl (fun _ w1 hp1 hI1 => pmade_bad hx w1) ?_; (refine st rfl ?_; conv => arg 3; whnf)
  (repeat (first | (refine n_must rfl ?_; (refine st rfl ?_; conv => arg 3; whnf)) | (refine n_chk (drawF_ok (by decide +kernel)) ?_; (refine st rfl ?_; conv => arg 3; whnf)) | (refine n_same rfl ?_; (refine st rfl ?_; conv => arg 3; whnf)) | (refine n_brT ?_ ?_; (focus (simp <;> fail)); (refine st rfl ?_; conv => arg 3; whnf)) | (refine n_brF ?_ ?_; (focus (simp <;> fail)); (refine st rfl ?_; conv => arg 3; whnf))))
  refine n_callN (Y := PA) (fun A => pairRes A PO0 (PS.fresh pe r)) 55 (fun A => .tup [.raw (pV A.p), .lit true]) (fun A => .tuple #[pV A.p, .bool true]) (fun _ => True) rfl rfl rfl (fun _ => rfl) (fun w1 _ => pmade_good hy w1) ?_
  intro B _ hfB
  (refine st rfl ?_; conv => arg 3; whnf)
  (repeat (first | (refine n_must rfl ?_; (refine st rfl ?_; conv => arg 3; whnf)) | (refine n_chk (drawF_ok (by decide +kernel)) ?_; (refine st rfl ?_; conv => arg 3; whnf)) | (refine n_same rfl ?_; (refine st rfl ?_; conv => arg 3; whnf)) | (refine n_brT ?_ ?_; (focus (simp <;> fail)); (refine st rfl ?_; conv => arg 3; whnf)) | (refine n_brF ?_ ?_; (focus (simp <;> fail)); (refine st rfl ?_; conv => arg 3; whnf))))
  refine n_loop (σ := Nat × (PO × PS)) (fun s => [(3, .raw (.slice o n cap)), (4, .int .i64 lo), (5, .int .i64 up), (14, .nilp), (16, .raw (pV B.p)), (18, .int .i64 (s.1 : Nat))]) (fun s => [carB B s.2]) (fun s => s.1 ≤ n ∧ s.1 ≤ 200 ∧ Car b0 r s.1 B s.2) (fun s => n - s.1) (0, (PO0, PS.fresh pe r)) mixed ⟨by simp, by simp, ⟨fun x hx => Nat.le_trans hB (hfB x hx), PS.fresh_ok hy⟩⟩ (fun _ _ => rfl) rfl (by (repeat (first | exact trivial | refine ⟨⟨rfl, rfl⟩, ?_⟩))) (fun s _ => ⟨by (repeat (first | exact trivial | refine ⟨⟨_, rfl⟩, ?_⟩)), by (repeat (first | exact trivial | refine ⟨⟨_, rfl⟩, ?_⟩))⟩) fun s hJ => ?_
  obtain ⟨i, sB⟩ := s
  obtain ⟨hi, hi2, hcB⟩ := hJ
  dsimp only at hi hi2 hcB ⊢
  (refine st rfl ?_; conv => arg 3; whnf)
  by_cases hlt : i < n ∧ i < 200
  · obtain ⟨h1, h2⟩ := hlt
    have ei : IntKind.i64.wrap ((i : Int) + 1) = ((i + 1 : Nat) : Int) := by rw [w64 (by omega) (by omega)]; simp
    obtain ⟨ad, rfl, hload⟩ := hsc.load h1
    (repeat (first | (refine n_must rfl ?_; (refine st rfl ?_; conv => arg 3; whnf)) | (refine n_chk (drawF_ok (by decide +kernel)) ?_; (refine st rfl ?_; conv => arg 3; whnf)) | (refine n_same rfl ?_; (refine st rfl ?_; conv => arg 3; whnf)) | (refine n_must ?_ ?_; (focus (first | (simp; done) | (simp; omega))); (refine st rfl ?_; conv => arg 3; whnf)) | (refine n_brT ?_ ?_; (focus (first | (simp; done) | (simp; omega))); (refine st rfl ?_; conv => arg 3; whnf)) | (refine n_brF ?_ ?_; (focus (first | (simp; done) | (simp; omega))); (refine st rfl ?_; conv => arg 3; whnf)) | (refine n_must (by (with_reducible refine and_shape ?_) <;> kernel_rfl) ?_; (refine st rfl ?_; conv => arg 3; whnf))))
    refine n_ld (.agg (opS (f i).k (f i).who (f i).a (f i).nm (f i).d (f i).u)) rfl rfl hload ?_
    (refine st rfl ?_; conv => arg 3; whnf)
    by_cases hw : (f i).who = 1
    · (repeat (first | (refine n_must rfl ?_; (refine st rfl ?_; conv => arg 3; whnf)) | (refine n_chk (drawF_ok (by decide +kernel)) ?_; (refine st rfl ?_; conv => arg 3; whnf)) | (refine n_same rfl ?_; (refine st rfl ?_; conv => arg 3; whnf)) | (refine n_must ?_ ?_; (focus (first | (simp [hw]; done) | (simp [hw]; omega) | (simp only [hw]; simp; done))); (refine st rfl ?_; conv => arg 3; whnf)) | (refine n_brT ?_ ?_; (focus (first | (simp [hw]; done) | (simp [hw]; omega) | (simp only [hw]; simp; done))); (refine st rfl ?_; conv => arg 3; whnf)) | (refine n_brF ?_ ?_; (focus (first | (simp [hw]; done) | (simp [hw]; omega) | (simp only [hw]; simp; done))); (refine st rfl ?_; conv => arg 3; whnf)) | (refine n_must (by (with_reducible refine and_shape ?_) <;> kernel_rfl) ?_; (refine st rfl ?_; conv => arg 3; whnf))))
      by_cases hk : 2 ≤ (f i).k ∧ (f i).k ≤ 4 ∧ ((f i).k < lo ∨ up < (f i).k)
      · (repeat' (first | (refine n_must rfl ?_; (refine st rfl ?_; conv => arg 3; whnf)) | (refine n_chk (drawF_ok (by decide +kernel)) ?_; (refine st rfl ?_; conv => arg 3; whnf)) | (refine n_same rfl ?_; (refine st rfl ?_; conv => arg 3; whnf)) | (refine n_must ?_ ?_; (focus (first | (simp; done) | (simp; omega))); (refine st rfl ?_; conv => arg 3; whnf)) | (refine n_brT ?_ ?_; (focus (first | (simp; done) | (simp; omega))); (refine st rfl ?_; conv => arg 3; whnf)) | (refine n_brF ?_ ?_; (focus (first | (simp; done) | (simp; omega))); (refine st rfl ?_; conv => arg 3; whnf)) | (refine n_br (fun hbr => ?_) (fun hbr => ?_) <;> simp at hbr <;> (refine st rfl ?_; conv => arg 3; whnf))))
        all_goals
          exact n_again ⟨(i + 1, sB), ⟨by dsimp only; omega, by dsimp only; omega, hcB.more⟩, by dsimp only; omega, (by (repeat (first | exact trivial | refine ⟨⟨rfl, rfl⟩, ?_⟩ | refine ⟨⟨rfl, congrArg (SV.int .i64) ei⟩, ?_⟩))), ⟨_, rfl⟩⟩
      · (repeat' (first | (refine n_must rfl ?_; (refine st rfl ?_; conv => arg 3; whnf)) | (refine n_chk (drawF_ok (by decide +kernel)) ?_; (refine st rfl ?_; conv => arg 3; whnf)) | (refine n_same rfl ?_; (refine st rfl ?_; conv => arg 3; whnf)) | (refine n_must ?_ ?_; (focus (first | (simp; done) | (simp; omega))); (refine st rfl ?_; conv => arg 3; whnf)) | (refine n_brT ?_ ?_; (focus (first | (simp; done) | (simp; omega))); (refine st rfl ?_; conv => arg 3; whnf)) | (refine n_brF ?_ ?_; (focus (first | (simp; done) | (simp; omega))); (refine st rfl ?_; conv => arg 3; whnf)) | (refine n_br (fun hbr => ?_) (fun hbr => ?_) <;> simp at hbr <;> (refine st rfl ?_; conv => arg 3; whnf))))
        all_goals
          refine n_callR (Y := PO) 0 (fun O' => pairRes B O' (sB.2.op r (f i))) (fun _ => .lit true) (fun _ => .bool true) (fun O' => Car b0 r (i + 1) B (O', sB.2.op r (f i))) rfl rfl (fun _ => rfl) rfl rfl rfl (fun _ w1 hp1 hI1 hR => played_car (hsf rfl rfl hI1).1 (hsf rfl rfl hI1).2 hR hcB (by omega) (f i) (hsc.fit i h1).1 (hsc.fit i h1).2) ?_
          intro O' hO'
          (refine st rfl ?_; conv => arg 3; whnf)
          (repeat (first | (refine n_must rfl ?_; (refine st rfl ?_; conv => arg 3; whnf)) | (refine n_chk (drawF_ok (by decide +kernel)) ?_; (refine st rfl ?_; conv => arg 3; whnf)) | (refine n_same rfl ?_; (refine st rfl ?_; conv => arg 3; whnf)) | (refine n_must ?_ ?_; (focus (first | (simp; done) | (simp; omega))); (refine st rfl ?_; conv => arg 3; whnf)) | (refine n_brT ?_ ?_; (focus (first | (simp; done) | (simp; omega))); (refine st rfl ?_; conv => arg 3; whnf)) | (refine n_brF ?_ ?_; (focus (first | (simp; done) | (simp; omega))); (refine st rfl ?_; conv => arg 3; whnf)) | (refine n_must (by (with_reducible refine and_shape ?_) <;> kernel_rfl) ?_; (refine st rfl ?_; conv => arg 3; whnf))))
          exact n_again ⟨(i + 1, (O', sB.2.op r (f i))), ⟨by dsimp only; omega, by dsimp only; omega, hO'⟩, by dsimp only; omega, (by (repeat (first | exact trivial | refine ⟨⟨rfl, rfl⟩, ?_⟩ | refine ⟨⟨rfl, congrArg (SV.int .i64) ei⟩, ?_⟩))), ⟨_, rfl⟩⟩
    · (repeat (first | (refine n_must rfl ?_; (refine st rfl ?_; conv => arg 3; whnf)) | (refine n_chk (drawF_ok (by decide +kernel)) ?_; (refine st rfl ?_; conv => arg 3; whnf)) | (refine n_same rfl ?_; (refine st rfl ?_; conv => arg 3; whnf)) | (refine n_must ?_ ?_; (focus (first | (simp [hw]; done) | (simp [hw]; omega) | (simp only [hw]; simp; done))); (refine st rfl ?_; conv => arg 3; whnf)) | (refine n_brT ?_ ?_; (focus (first | (simp [hw]; done) | (simp [hw]; omega) | (simp only [hw]; simp; done))); (refine st rfl ?_; conv => arg 3; whnf)) | (refine n_brF ?_ ?_; (focus (first | (simp [hw]; done) | (simp [hw]; omega) | (simp only [hw]; simp; done))); (refine st rfl ?_; conv => arg 3; whnf)) | (refine n_must (by (with_reducible refine and_shape ?_) <;> kernel_rfl) ?_; (refine st rfl ?_; conv => arg 3; whnf))))
      exact n_again ⟨(i + 1, sB), ⟨by dsimp only; omega, by dsimp only; omega, hcB.more⟩, by dsimp only; omega, (by (repeat (first | exact trivial | refine ⟨⟨rfl, rfl⟩, ?_⟩ | refine ⟨⟨rfl, congrArg (SV.int .i64) ei⟩, ?_⟩))), ⟨_, rfl⟩⟩
  · (repeat' (first | (refine n_must rfl ?_; (refine st rfl ?_; conv => arg 3; whnf)) | (refine n_chk (drawF_ok (by decide +kernel)) ?_; (refine st rfl ?_; conv => arg 3; whnf)) | (refine n_same rfl ?_; (refine st rfl ?_; conv => arg 3; whnf)) | (refine n_must ?_ ?_; (focus (first | (simp; done) | (simp; omega))); (refine st rfl ?_; conv => arg 3; whnf)) | (refine n_brT ?_ ?_; (focus (first | (simp; done) | (simp; omega))); (refine st rfl ?_; conv => arg 3; whnf)) | (refine n_brF ?_ ?_; (focus (first | (simp; done) | (simp; omega))); (refine st rfl ?_; conv => arg 3; whnf)) | (refine n_br (fun hbr => ?_) (fun hbr => ?_) <;> simp at hbr <;> (refine st rfl ?_; conv => arg 3; whnf))))
    all_goals
      refine n_exit rfl ?_
      (refine st rfl ?_; conv => arg 3; whnf)
      (repeat (first | (refine n_must rfl ?_; (refine st rfl ?_; conv => arg 3; whnf)) | (refine n_chk (drawF_ok (by decide +kernel)) ?_; (refine st rfl ?_; conv => arg 3; whnf)) | (refine n_same rfl ?_; (refine st rfl ?_; conv => arg 3; whnf)) | (refine n_brT ?_ ?_; (focus (simp <;> fail)); (refine st rfl ?_; conv => arg 3; whnf)) | (refine n_brF ?_ ?_; (focus (simp <;> fail)); (refine st rfl ?_; conv => arg 3; whnf))))
      exact n_ret0 rfl rfl fun ids' w' hp hI' => ⟨rfl, hI'.frm⟩
theorem prun_none {b0 : Nat} {w : World} {a0 a1 a2 : Addr} (hs : Sents b0 w a0 a1 a2) (hB : b0 ≤ w.heap.size) (me pe lo up r : Int) (hx : newErr me r ≠ 0) (hy : newErr pe r ≠ 0) {o : Option Addr} {n cap : Nat} {f : Nat → Op6} (hsc : Scr w o n f) :
    Calls Tryd.prog 7 #[.int .i64 me, .int .i64 pe, .int .i64 r, .slice o n cap, .int .i64 lo, .int .i64 up] w fun e w' => e = .returned (.bool true) ∧ Frm [] w w' := by
  have hI := Inv.nil (P := Tryd.prog) (N := 92) (S := []) (os := []) w
  have hsf : ∀ {c : Ctx} {w1 : World} {ids' : List Nat} {m : Mem}, c.S = [] → c.w0 = w → Inv c w1 ids' m → Sents b0 w1 a0 a1 a2 ∧ b0 ≤ w1.heap.size := by
    rintro c w1 ids' m h1 rfl hI1
    exact ⟨hs.frm hI1.frm (by rw [h1]; simp) hB, Nat.le_trans hB hI1.frm.size⟩
  have hlen := hsc.len
  refine calls_sm (cx 92 [] [] w) (vals := [.int .i64 me, .int .i64 pe, .int .i64 r, .raw (.slice o n cap), .int .i64 lo, .int .i64 up]) mixed Tryd.func7 rfl rfl rfl hI rfl (st rfl ?_); conv => arg 3; whnf
  (repeat (first | (refine n_must rfl ?_; (refine st rfl ?_; conv => arg 3; whnf)) | (refine n_chk (drawF_ok (by decide +kernel)) ?_; (refine st rfl ?_; conv => arg 3; whnf)) | (refine n_same rfl ?_; (refine st rfl ?_; conv => arg 3; whnf)) | (refine n_brT ?_ ?_; (focus (simp <;> fail)); (refine st rfl ?_; conv => arg 3; whnf)) | (refine n_brF ?_ ?_; (focus (simp <;> fail)); (refine st rfl ?_; conv => arg 3; whnf))))
  refine n_sameP (.lit true) rfl rfl rfl (fun _ w1 hp1 hI1 => alive_ok (hsf rfl rfl hI1).1 (hsf rfl rfl hI1).2) ?_; (refine st rfl ?_; conv => arg 3; whnf)
  (repeat (first | (refine n_must rfl ?_; (refine st rfl ?_; conv => arg 3; whnf)) | (refine n_chk (drawF_ok (by decide +kernel)) ?_; (refine st rfl ?_; conv => arg 3; whnf)) | (refine n_same rfl ?_; (refine st rfl ?_; conv => arg 3; whnf)) | (refine n_brT ?_ ?_; (focus (simp <;> fail)); (refine st rfl ?_; conv => arg 3; whnf)) | (refine n_brF ?_ ?_; (focus (simp <;> fail)); (refine st rfl ?_; conv => arg 3; whnf))))
  refine n_sameP (.tup [.nilp, .lit true]) rfl rfl rfl (fun _ w1 hp1 hI1 => pmade_bad hx w1) ?_; (refine st rfl ?_; conv => arg 3; whnf)
  (repeat (first | (refine n_must rfl ?_; (refine st rfl ?_; conv => arg 3; whnf)) | (refine n_chk (drawF_ok (by decide +kernel)) ?_; (refine st rfl ?_; conv => arg 3; whnf)) | (refine n_same rfl ?_; (refine st rfl ?_; conv => arg 3; whnf)) | (refine n_brT ?_ ?_; (focus (simp <;> fail)); (refine st rfl ?_; conv => arg 3; whnf)) | (refine n_brF ?_ ?_; (focus (simp <;> fail)); (refine st rfl ?_; conv => arg 3; whnf))))
  refine n_sameP (.tup [.nilp, .lit true]) rfl rfl rfl (fun _ w1 hp1 hI1 => pmade_bad hy w1) ?_; (refine st rfl ?_; conv => arg 3; whnf)
  (repeat (first | (refine n_must rfl ?_; (refine st rfl ?_; conv => arg 3; whnf)) | (refine n_chk (drawF_ok (by decide +kernel)) ?_; (refine st rfl ?_; conv => arg 3; whnf)) | (refine n_same rfl ?_; (refine st rfl ?_; conv => arg 3; whnf)) | (refine n_brT ?_ ?_; (focus (simp <;> fail)); (refine st rfl ?_; conv => arg 3; whnf)) | (refine n_brF ?_ ?_; (focus (simp <;> fail)); (refine st rfl ?_; conv => arg 3; whnf))))
  refine n_loop (σ := Nat) (fun s => [(3, .raw (.slice o n cap)), (4, .int .i64 lo), (5, .int .i64 up), (14, .nilp), (16, .nilp), (18, .int .i64 (s : Nat))]) (fun s => []) (fun s => s ≤ n ∧ s ≤ 200) (fun s => n - s) 0 mixed ⟨by simp, by simp⟩ (fun _ _ => rfl) rfl (by (repeat (first | exact trivial | refine ⟨⟨rfl, rfl⟩, ?_⟩))) (fun s _ => ⟨by (repeat (first | exact trivial | refine ⟨⟨_, rfl⟩, ?_⟩)), by (repeat (first | exact trivial | refine ⟨⟨_, rfl⟩, ?_⟩))⟩) fun i hJ => ?_
  obtain ⟨hi, hi2⟩ := hJ
  (refine st rfl ?_; conv => arg 3; whnf)
  by_cases hlt : i < n ∧ i < 200
  · obtain ⟨h1, h2⟩ := hlt
    have ei : IntKind.i64.wrap ((i : Int) + 1) = ((i + 1 : Nat) : Int) := by rw [w64 (by omega) (by omega)]; simp
    obtain ⟨ad, rfl, hload⟩ := hsc.load h1
    (repeat (first | (refine n_must rfl ?_; (refine st rfl ?_; conv => arg 3; whnf)) | (refine n_chk (drawF_ok (by decide +kernel)) ?_; (refine st rfl ?_; conv => arg 3; whnf)) | (refine n_same rfl ?_; (refine st rfl ?_; conv => arg 3; whnf)) | (refine n_must ?_ ?_; (focus (first | (simp; done) | (simp; omega))); (refine st rfl ?_; conv => arg 3; whnf)) | (refine n_brT ?_ ?_; (focus (first | (simp; done) | (simp; omega))); (refine st rfl ?_; conv => arg 3; whnf)) | (refine n_brF ?_ ?_; (focus (first | (simp; done) | (simp; omega))); (refine st rfl ?_; conv => arg 3; whnf)) | (refine n_must (by (with_reducible refine and_shape ?_) <;> kernel_rfl) ?_; (refine st rfl ?_; conv => arg 3; whnf))))
    refine n_ld (.agg (opS (f i).k (f i).who (f i).a (f i).nm (f i).d (f i).u)) rfl rfl hload ?_
    (refine st rfl ?_; conv => arg 3; whnf)
    by_cases hw : (f i).who = 1
    · (repeat (first | (refine n_must rfl ?_; (refine st rfl ?_; conv => arg 3; whnf)) | (refine n_chk (drawF_ok (by decide +kernel)) ?_; (refine st rfl ?_; conv => arg 3; whnf)) | (refine n_same rfl ?_; (refine st rfl ?_; conv => arg 3; whnf)) | (refine n_must ?_ ?_; (focus (first | (simp [hw]; done) | (simp [hw]; omega) | (simp only [hw]; simp; done))); (refine st rfl ?_; conv => arg 3; whnf)) | (refine n_brT ?_ ?_; (focus (first | (simp [hw]; done) | (simp [hw]; omega) | (simp only [hw]; simp; done))); (refine st rfl ?_; conv => arg 3; whnf)) | (refine n_brF ?_ ?_; (focus (first | (simp [hw]; done) | (simp [hw]; omega) | (simp only [hw]; simp; done))); (refine st rfl ?_; conv => arg 3; whnf)) | (refine n_must (by (with_reducible refine and_shape ?_) <;> kernel_rfl) ?_; (refine st rfl ?_; conv => arg 3; whnf))))
      exact n_again ⟨i + 1, ⟨by omega, by omega⟩, by omega, (by (repeat (first | exact trivial | refine ⟨⟨rfl, rfl⟩, ?_⟩ | refine ⟨⟨rfl, congrArg (SV.int .i64) ei⟩, ?_⟩))), ⟨_, rfl⟩⟩
    · (repeat (first | (refine n_must rfl ?_; (refine st rfl ?_; conv => arg 3; whnf)) | (refine n_chk (drawF_ok (by decide +kernel)) ?_; (refine st rfl ?_; conv => arg 3; whnf)) | (refine n_same rfl ?_; (refine st rfl ?_; conv => arg 3; whnf)) | (refine n_must ?_ ?_; (focus (first | (simp [hw]; done) | (simp [hw]; omega) | (simp only [hw]; simp; done))); (refine st rfl ?_; conv => arg 3; whnf)) | (refine n_brT ?_ ?_; (focus (first | (simp [hw]; done) | (simp [hw]; omega) | (simp only [hw]; simp; done))); (refine st rfl ?_; conv => arg 3; whnf)) | (refine n_brF ?_ ?_; (focus (first | (simp [hw]; done) | (simp [hw]; omega) | (simp only [hw]; simp; done))); (refine st rfl ?_; conv => arg 3; whnf)) | (refine n_must (by (with_reducible refine and_shape ?_) <;> kernel_rfl) ?_; (refine st rfl ?_; conv => arg 3; whnf))))
      exact n_again ⟨i + 1, ⟨by omega, by omega⟩, by omega, (by (repeat (first | exact trivial | refine ⟨⟨rfl, rfl⟩, ?_⟩ | refine ⟨⟨rfl, congrArg (SV.int .i64) ei⟩, ?_⟩))), ⟨_, rfl⟩⟩
  · (repeat' (first | (refine n_must rfl ?_; (refine st rfl ?_; conv => arg 3; whnf)) | (refine n_chk (drawF_ok (by decide +kernel)) ?_; (refine st rfl ?_; conv => arg 3; whnf)) | (refine n_same rfl ?_; (refine st rfl ?_; conv => arg 3; whnf)) | (refine n_must ?_ ?_; (focus (first | (simp; done) | (simp; omega))); (refine st rfl ?_; conv => arg 3; whnf)) | (refine n_brT ?_ ?_; (focus (first | (simp; done) | (simp; omega))); (refine st rfl ?_; conv => arg 3; whnf)) | (refine n_brF ?_ ?_; (focus (first | (simp; done) | (simp; omega))); (refine st rfl ?_; conv => arg 3; whnf)) | (refine n_br (fun hbr => ?_) (fun hbr => ?_) <;> simp at hbr <;> (refine st rfl ?_; conv => arg 3; whnf))))
    all_goals
      refine n_exit rfl ?_
      (refine st rfl ?_; conv => arg 3; whnf)
      (repeat (first | (refine n_must rfl ?_; (refine st rfl ?_; conv => arg 3; whnf)) | (refine n_chk (drawF_ok (by decide +kernel)) ?_; (refine st rfl ?_; conv => arg 3; whnf)) | (refine n_same rfl ?_; (refine st rfl ?_; conv => arg 3; whnf)) | (refine n_brT ?_ ?_; (focus (simp <;> fail)); (refine st rfl ?_; conv => arg 3; whnf)) | (refine n_brF ?_ ?_; (focus (simp <;> fail)); (refine st rfl ?_; conv => arg 3; whnf))))
      exact n_ret0 rfl rfl fun ids' w' hp hI' => ⟨rfl, hI'.frm⟩
theorem pruns_ok {b0 : Nat} {w : World} {a0 a1 a2 : Addr} (hs : Sents b0 w a0 a1 a2) (hB : b0 ≤ w.heap.size) (me pe r lo up : Int) {o : Option Addr} {n cap : Nat} {f : Nat → Op6} (hsc : Scr w o n f) :
    Calls Tryd.prog 7 #[.int .i64 me, .int .i64 pe, .int .i64 r, .slice o n cap, .int .i64 lo, .int .i64 up] w fun e w' => e = .returned (.bool true) ∧ Frm [] w w' := by
  by_cases hx : newErr me r = 0 <;> by_cases hy : newErr pe r = 0
  · obtain ⟨q, rfl⟩ : ∃ q : Nat, r = (q : Int) := ⟨r.toNat, by have := newErr_0 hx; omega⟩
    exact prun_both hs hB me pe lo up q hx hy hsc
  · obtain ⟨q, rfl⟩ : ∃ q : Nat, r = (q : Int) := ⟨r.toNat, by have := newErr_0 hx; omega⟩
    exact prun_left hs hB me pe lo up q hx hy hsc
  · obtain ⟨q, rfl⟩ : ∃ q : Nat, r = (q : Int) := ⟨r.toNat, by have := newErr_0 hy; omega⟩
    exact prun_right hs hB me pe lo up q hx hy hsc
  · exact prun_none hs hB me pe lo up r hx hy hsc

theorem GossipTicks_ok {b0 : Nat} {w : World} {a0 a1 a2 : Addr} (hs : Sents b0 w a0 a1 a2) (hB : b0 ≤ w.heap.size) (me pe r : Int) {o : Option Addr} {n cap : Nat} {f : Nat → Op6} (hsc : Scr w o n f) :
    Calls Tryd.prog 3 #[.int .i64 me, .int .i64 pe, .int .i64 r, .slice o n cap] w fun e w' => e = .returned (.bool true) ∧ Frm [] w w' := by
  have hI := Inv.nil (P := Tryd.prog) (N := 14) (S := []) (os := []) w
  refine calls_sm (cx 14 [] [] w) (vals := [.int .i64 me, .int .i64 pe, .int .i64 r, .raw (.slice o n cap)]) mixed Tryd.func3 rfl rfl rfl hI rfl (st rfl ?_); conv => arg 3; whnf
  (repeat (first | (refine n_must rfl ?_; (refine st rfl ?_; conv => arg 3; whnf)) | (refine n_chk (drawF_ok (by decide +kernel)) ?_; (refine st rfl ?_; conv => arg 3; whnf)) | (refine n_same rfl ?_; (refine st rfl ?_; conv => arg 3; whnf)) | (refine n_brT ?_ ?_; (focus (simp <;> fail)); (refine st rfl ?_; conv => arg 3; whnf)) | (refine n_brF ?_ ?_; (focus (simp <;> fail)); (refine st rfl ?_; conv => arg 3; whnf))))
  refine n_sameP (.lit true) rfl rfl rfl (fun _ w1 hp1 hI1 => pruns_ok (hs.frm hI1.frm (by simp) hB) (Nat.le_trans hB hI1.frm.size) me pe r 2 2 (hsc.frm hI1.frm)) ?_; (refine st rfl ?_; conv => arg 3; whnf)
  (repeat (first | (refine n_must rfl ?_; (refine st rfl ?_; conv => arg 3; whnf)) | (refine n_chk (drawF_ok (by decide +kernel)) ?_; (refine st rfl ?_; conv => arg 3; whnf)) | (refine n_same rfl ?_; (refine st rfl ?_; conv => arg 3; whnf)) | (refine n_brT ?_ ?_; (focus (simp <;> fail)); (refine st rfl ?_; conv => arg 3; whnf)) | (refine n_brF ?_ ?_; (focus (simp <;> fail)); (refine st rfl ?_; conv => arg 3; whnf))))
  exact n_ret0 rfl rfl fun ids' w' hp hI' => ⟨rfl, hI'.frm⟩
theorem GossipGives_ok {b0 : Nat} {w : World} {a0 a1 a2 : Addr} (hs : Sents b0 w a0 a1 a2) (hB : b0 ≤ w.heap.size) (me pe r : Int) {o : Option Addr} {n cap : Nat} {f : Nat → Op6} (hsc : Scr w o n f) :
    Calls Tryd.prog 4 #[.int .i64 me, .int .i64 pe, .int .i64 r, .slice o n cap] w fun e w' => e = .returned (.bool true) ∧ Frm [] w w' := by
  have hI := Inv.nil (P := Tryd.prog) (N := 14) (S := []) (os := []) w
  refine calls_sm (cx 14 [] [] w) (vals := [.int .i64 me, .int .i64 pe, .int .i64 r, .raw (.slice o n cap)]) mixed Tryd.func4 rfl rfl rfl hI rfl (st rfl ?_); conv => arg 3; whnf
  (repeat (first | (refine n_must rfl ?_; (refine st rfl ?_; conv => arg 3; whnf)) | (refine n_chk (drawF_ok (by decide +kernel)) ?_; (refine st rfl ?_; conv => arg 3; whnf)) | (refine n_same rfl ?_; (refine st rfl ?_; conv => arg 3; whnf)) | (refine n_brT ?_ ?_; (focus (simp <;> fail)); (refine st rfl ?_; conv => arg 3; whnf)) | (refine n_brF ?_ ?_; (focus (simp <;> fail)); (refine st rfl ?_; conv => arg 3; whnf))))
  refine n_sameP (.lit true) rfl rfl rfl (fun _ w1 hp1 hI1 => pruns_ok (hs.frm hI1.frm (by simp) hB) (Nat.le_trans hB hI1.frm.size) me pe r 3 3 (hsc.frm hI1.frm)) ?_; (refine st rfl ?_; conv => arg 3; whnf)
  (repeat (first | (refine n_must rfl ?_; (refine st rfl ?_; conv => arg 3; whnf)) | (refine n_chk (drawF_ok (by decide +kernel)) ?_; (refine st rfl ?_; conv => arg 3; whnf)) | (refine n_same rfl ?_; (refine st rfl ?_; conv => arg 3; whnf)) | (refine n_brT ?_ ?_; (focus (simp <;> fail)); (refine st rfl ?_; conv => arg 3; whnf)) | (refine n_brF ?_ ?_; (focus (simp <;> fail)); (refine st rfl ?_; conv => arg 3; whnf))))
  exact n_ret0 rfl rfl fun ids' w' hp hI' => ⟨rfl, hI'.frm⟩
theorem GossipAll_ok {b0 : Nat} {w : World} {a0 a1 a2 : Addr} (hs : Sents b0 w a0 a1 a2) (hB : b0 ≤ w.heap.size) (me pe r : Int) {o : Option Addr} {n cap : Nat} {f : Nat → Op6} (hsc : Scr w o n f) :
    Calls Tryd.prog 5 #[.int .i64 me, .int .i64 pe, .int .i64 r, .slice o n cap] w fun e w' => e = .returned (.bool true) ∧ Frm [] w w' := by
  have hI := Inv.nil (P := Tryd.prog) (N := 14) (S := []) (os := []) w
  refine calls_sm (cx 14 [] [] w) (vals := [.int .i64 me, .int .i64 pe, .int .i64 r, .raw (.slice o n cap)]) mixed Tryd.func5 rfl rfl rfl hI rfl (st rfl ?_); conv => arg 3; whnf
  (repeat (first | (refine n_must rfl ?_; (refine st rfl ?_; conv => arg 3; whnf)) | (refine n_chk (drawF_ok (by decide +kernel)) ?_; (refine st rfl ?_; conv => arg 3; whnf)) | (refine n_same rfl ?_; (refine st rfl ?_; conv => arg 3; whnf)) | (refine n_brT ?_ ?_; (focus (simp <;> fail)); (refine st rfl ?_; conv => arg 3; whnf)) | (refine n_brF ?_ ?_; (focus (simp <;> fail)); (refine st rfl ?_; conv => arg 3; whnf))))
  refine n_sameP (.lit true) rfl rfl rfl (fun _ w1 hp1 hI1 => pruns_ok (hs.frm hI1.frm (by simp) hB) (Nat.le_trans hB hI1.frm.size) me pe r 2 4 (hsc.frm hI1.frm)) ?_; (refine st rfl ?_; conv => arg 3; whnf)
  (repeat (first | (refine n_must rfl ?_; (refine st rfl ?_; conv => arg 3; whnf)) | (refine n_chk (drawF_ok (by decide +kernel)) ?_; (refine st rfl ?_; conv => arg 3; whnf)) | (refine n_same rfl ?_; (refine st rfl ?_; conv => arg 3; whnf)) | (refine n_brT ?_ ?_; (focus (simp <;> fail)); (refine st rfl ?_; conv => arg 3; whnf)) | (refine n_brF ?_ ?_; (focus (simp <;> fail)); (refine st rfl ?_; conv => arg 3; whnf))))
  exact n_ret0 rfl rfl fun ids' w' hp hI' => ⟨rfl, hI'.frm⟩
end Go.Proofs.YtapiakcfjhedpaaDoor
