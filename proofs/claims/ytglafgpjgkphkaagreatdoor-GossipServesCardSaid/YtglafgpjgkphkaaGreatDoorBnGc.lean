/- Chapter 12: made. Chapter 12: alive. Chapter 12: run; the three laws over a script. Chapter 12: GossipApart. -/
import Derived.Test.YtglafgpjgkphkaaGreatDoorBnGl
import Derived.Test.YtglafgpjgkphkaaGreatDoorBs
namespace Go.Proofs.YtglafgpjgkphkaaGreatDoor
section
set_option maxRecDepth 100000
set_option linter.unusedSimpArgs false
set_option linter.unusedVariables false
set_option maxHeartbeats 4000000
open Go.RowKit

def PS.fresh (me n : Int) : PS := ⟨0, ⟨me, n, []⟩, Led.mk 0 0 0 1099511627776 0, ⟨me, [], List.replicate n.toNat 0⟩, ⟨me, n, []⟩, ⟨me, n, []⟩⟩
abbrev PO0 : PO := ⟨none, 0, none, 0⟩
theorem capTop : capB 1099511627776 = true := by decide
theorem PS.fresh_ok {me : Int} {n : Nat} (h : newErr me n = 0) : (PS.fresh me n).ok n 0 := by
  obtain ⟨h1, h2, h3, h4⟩ := newErr_0 h
  exact ⟨Led.new_ok capTop, ⟨rfl, rfl, fun nm => rfl⟩, VRel.new ⟨h3, h4⟩, rfl, rfl, by omega, by omega, by simp [PS.fresh], by simp [PS.fresh], by simp [PS.fresh]⟩
theorem pmade_bad {me n : Int} (h : newErr me n ≠ 0) (w : World) : Calls Tryz.prog 12 #[.int .i64 me, .int .i64 n] w fun e w' => e = .returned (.tuple #[.pointer none, .bool true]) ∧ Frm [] w w' := by
  have hI := Inv.nil (P := Tryz.prog) (N := 89) (S := []) (os := []) w
  refine calls_sm (cx 89 [] [] w) (vals := [.int .i64 me, .int .i64 n]) mixed Tryz.func12 rfl rfl rfl hI rfl (st rfl ?_); conv => arg 3; whnf
  refine gg ?_
  refine n_sameP (.tup [.nilp, .int .i64 (newErr me n)]) rfl rfl rfl (fun _ w1 hp1 hI1 => gNew_bad h w1) ?_; (refine gs ?_)
  refine gg ?_
  refine n_sameP (.tup [.nilp, .int .i64 (newErr me n)]) rfl rfl rfl (fun _ w1 hp1 hI1 => rgNew_bad h w1) ?_; (refine gs ?_)
  refine gw ?_
  exact n_ret0 rfl rfl fun ids' w' hp hI' => ⟨rfl, hI'.frm⟩
theorem pmade_good {me n : Int} (h : newErr me n = 0) (w : World) : Calls Tryz.prog 12 #[.int .i64 me, .int .i64 n] w fun e w' => ∃ A : PA, e = .returned (.tuple #[pV A.p, .bool true]) ∧ True ∧ FreshR w w' (pairRes A PO0 (PS.fresh me n)) := by
  have hI := Inv.nil (P := Tryz.prog) (N := 89) (S := []) (os := []) w
  refine calls_sm (cx 89 [] [] w) (vals := [.int .i64 me, .int .i64 n]) mixed Tryz.func12 rfl rfl rfl hI rfl (st rfl ?_); conv => arg 3; whnf
  refine gg ?_
  refine n_callN (Y := Nat × Nat) (fun y => gossRes y.1 y.2 ⟨me, n, []⟩) 71 (fun y => .tup [.raw (pV y.1), .int .i64 0]) (fun y => .tuple #[pV y.1, .int .i64 0]) (fun _ => True) rfl rfl rfl (fun _ => rfl) (fun w1 _ => gNew_good h w1) ?_
  rintro ⟨pg, mg⟩ _ hf0
  (refine gs ?_)
  refine gg ?_
  refine n_callN (Y := Nat) (fun y => rgRes y none 0 ⟨me, n, []⟩) 115 (fun y => .tup [.raw (pV y), .int .i64 0]) (fun y => .tuple #[pV y, .int .i64 0]) (fun _ => True) rfl rfl rfl (fun _ => rfl) (fun w1 _ => rgNew_good h w1) ?_
  rintro prg _ hf1
  (refine gs ?_)
  refine gw ?_
  refine n_new (.tup [.ptr 2 0, .int .i64 0]) ⟨80, (Led.mk 0 0 0 1099511627776 0).sv, true⟩ _ _ rfl rfl rfl (fun _ => rfl) (fun _ => rfl) (fun w1 _ => New_1 _ capTop w1) fun pl hpl _ => ?_
  (refine gs ?_)
  refine gw ?_
  refine n_callN (Y := Nat × Nat × Nat) (fun y => viewsRes y.1 y.2.1 y.2.2 ⟨me, [], List.replicate n.toNat 0⟩) 97 (fun y => .tup [.raw (pV y.1), .int .i64 0]) (fun y => .tuple #[pV y.1, .int .i64 0]) (fun _ => True) rfl rfl rfl (fun _ => rfl) (fun w1 _ => vNew_good h w1) ?_
  rintro ⟨pv, mv, nv⟩ _ hf3
  (refine gs ?_)
  refine gw ?_
  refine n_new (.tup [.ptr 4 0, .int .i64 0]) ⟨118, (Led.mk 0 0 0 1099511627776 0).sv, true⟩ _ _ rfl rfl rfl (fun _ => rfl) (fun _ => rfl) (fun w1 _ => rNew_1 _ capTop w1) fun prl hprl _ => ?_
  (refine gs ?_)
  refine gw ?_
  refine n_callN (Y := Nat) (fun y => rvRes y none 0 ⟨me, n, []⟩) 121 (fun y => .tup [.raw (pV y), .int .i64 0]) (fun y => .tuple #[pV y, .int .i64 0]) (fun _ => True) rfl rfl rfl (fun _ => rfl) (fun w1 _ => rvNew_good h w1) ?_
  rintro prv _ hf5
  (refine gs ?_)
  refine gw ?_
  refine n_ret rfl fun ids' w' hp hI' => ?_
  obtain ⟨p, rfl⟩ := ext1 hp (by rw [hI'.len]; rfl)
  refine ⟨_, rfl, ⟨p, pg, mg, pl, pv, mv, nv, prg, prl, prv⟩, rfl, trivial, ?_⟩
  exact fresh_shut hI' rfl [6, 0, 2, 3, 1, 4, 5] (.blk rfl rfl rfl rfl (.res rfl (.blk rfl rfl rfl rfl (.res rfl (.res rfl (.blk rfl rfl rfl rfl (.res rfl .nil))))))) (by decide)

abbrev nmA : ByteArray := ⟨#[107]⟩
abbrev opA : Nat → Int × Int × ByteArray × Int × Int
  | 0 => (5, 0, ByteArray.empty, 1, 0)
  | 1 => (7, 1, nmA, 4, 9)
  | 2 => (7, 2, nmA, 6, 2)
  | _ => (1, 0, nmA, 5, 2)
def stA : Nat → PS
  | 0 => PS.fresh 0 3
  | i + 1 => (stA i).play 3 (opA i).1 (opA i).2.1 (opA i).2.2.1 (opA i).2.2.2.1 (opA i).2.2.2.2
abbrev opsA : List SV := opS 5 0 0 ByteArray.empty 1 0 ++ opS 7 0 1 nmA 4 9 ++ opS 7 0 2 nmA 6 2 ++ opS 1 0 0 nmA 5 2
theorem aliveTick : ((stA 4).G.tick nmA (stA 4).l.d (stA 4).l.u (rKnownL (stA 4).RV.All nmA 3)).2 = (2, (4, 2), true) := by decide +kernel
theorem pair_den (A : PA) (O : PO) (S : PS) : ∀ i b, nth (pairMem A O S) i = some b → resOf b = none → ∃ l, denL [] b.cells = some l := by
  intro i b h hr
  match i, h with
  | 0, h => simp [nth] at h; subst h; exact ⟨_, rfl⟩
  | 1, h => simp [nth] at h; subst h; cases hr
  | 2, h => simp [nth] at h; subst h; exact ⟨_, rfl⟩
  | 3, h => simp [nth] at h; subst h; cases hr
  | 4, h => simp [nth] at h; subst h; cases hr
  | 5, h => simp [nth] at h; subst h; exact ⟨_, rfl⟩
  | 6, h => simp [nth] at h; subst h; cases hr
  | n + 7, h => simp [nth] at h
/-- What the next call needs is carried along. -/
theorem played_on {b0 : Nat} {A : PA} {O : PO} {S : PS} {n K : Nat} {w : World} {a0 a1 a2 : Addr} (hs : Sents b0 w a0 a1 a2) (hb0 : ∀ x ∈ (pairRes A O S).fp, b0 ≤ x) (hB : b0 ≤ w.heap.size) (hR : (pairRes A O S).R w) (ok : S.ok n K) (hK : K ≤ 1000) (k who a : Int) (nm : ByteArray) (d u : Int) (ha : i64 a) (hnm : nm.size ≤ maxLen) :
    Calls Tryz.prog 13 #[pV A.p, .agg (opV k who a nm d u)] w fun e w' => ∃ O' : PO, e = .returned (.bool true) ∧ ((∀ x ∈ (pairRes A O' (S.play n k a nm d u)).fp, b0 ≤ x) ∧ (S.play n k a nm d u).ok n (K + 1)) ∧ Post (pairRes A O S) (pairRes A O' (S.play n k a nm d u)) w w' :=
  (played_ok hs hb0 hB hR ok hK k who a nm d u ha hnm).mono fun e w' ⟨O', he, _, hP⟩ => ⟨O', he, ⟨fun x hx => by
    rcases hP.2.2.1 x hx with h | h
    · exact hb0 x h
    · omega, ok.play hK (bytes0 hR).1 k a nm d u⟩, hP⟩
theorem newErr03 : newErr 0 3 = 0 := by decide
theorem opParts : sizeB Tryz.prog 48 = some 6 := by kernel_rfl

theorem alive_ok {b0 : Nat} {w : World} {a0 a1 a2 : Addr} (hs : Sents b0 w a0 a1 a2) (hB : b0 ≤ w.heap.size) :
    Calls Tryz.prog 5 #[] w fun e w' => e = .returned (.bool true) ∧ Frm [] w w' := by
  have hI := Inv.nil (P := Tryz.prog) (N := 68) (S := []) (os := [(11, .then [(0, []), (1, []), (2, []), (3, []), (4, []), (5, []), (6, []), (7, []), (8, []), (9, []), (10, []), (11, [])] (.fork 12 [] (.of [(13, []), (14, []), (15, []), (16, []), (17, []), (18, []), (19, []), (20, [])]) (.cons 17 [11, 7, 3] (.of [(12, []), (13, []), (14, []), (15, []), (16, []), (18, []), (19, []), (20, [])]))))]) w
  have hsf : ∀ {c : Ctx} {w1 : World} {ids' : List Nat} {m : Mem}, c.S = [] → c.w0 = w → Inv c w1 ids' m → Sents b0 w1 a0 a1 a2 ∧ b0 ≤ w1.heap.size := by
    rintro c w1 ids' m h1 rfl hI1
    exact ⟨hs.frm hI1.frm (by rw [h1]; simp) hB, Nat.le_trans hB hI1.frm.size⟩
  refine calls_sm (cx 68 [(11, .then [(0, []), (1, []), (2, []), (3, []), (4, []), (5, []), (6, []), (7, []), (8, []), (9, []), (10, []), (11, [])] (.fork 12 [] (.of [(13, []), (14, []), (15, []), (16, []), (17, []), (18, []), (19, []), (20, [])]) (.cons 17 [11, 7, 3] (.of [(12, []), (13, []), (14, []), (15, []), (16, []), (18, []), (19, []), (20, [])]))))] [] w) (vals := []) mixed Tryz.func5 rfl rfl rfl hI rfl (st rfl ?_); conv => arg 3; whnf
  refine gg ?_
  refine n_callNM (Y := PA) (fun A => pairIds A) (fun A => pairMem A PO0 (PS.fresh 0 3)) (fun A => .tup [.ptr 0 0, .lit true]) (fun A => .tuple #[pV A.p, .bool true]) (fun _ => True) rfl rfl rfl (fun _ => rfl) (fun A => pair_den A _ _) (fun w1 _ => pmade_good newErr03 w1) ?_
  intro A _ hfA
  (refine gs ?_)
  refine gw ?_
  refine n_buildN (len := 4) (n := 6) (xs := opsA) rfl rfl rfl rfl rfl opParts rfl rfl rfl rfl rfl ?_
  (refine gs ?_)
  refine gg ?_
  refine n_loop1 rfl fun ob => ?_
  refine n_loop (σ := Nat × PO) (fun s => [(1, .ptr 0 0), (3, .sl 7 0 4 4), (4, .int .i64 (s.1 : Nat))]) (fun s => pairMem A s.2 (stA s.1) ++ [⟨48, opsA, true⟩]) (fun s => s.1 ≤ 4 ∧ (∀ x ∈ (pairRes A s.2 (stA s.1)).fp, b0 ≤ x) ∧ (stA s.1).ok 3 s.1) (fun s => 4 - s.1) (0, PO0) mixed ⟨by simp, fun x hx => Nat.le_trans hB (hfA x hx), PS.fresh_ok newErr03⟩ (fun _ _ => rfl) rfl (by (repeat (first | exact trivial | refine ⟨⟨rfl, rfl⟩, ?_⟩))) (fun s _ => ⟨by (repeat (first | exact trivial | refine ⟨⟨_, rfl⟩, ?_⟩)), by (repeat (first | exact trivial | refine ⟨⟨_, rfl⟩, ?_⟩))⟩) fun s hJ => ?_
  obtain ⟨i, O⟩ := s
  obtain ⟨hi, hfp, ok⟩ := hJ
  dsimp only at hi hfp ok ⊢
  (refine gs ?_)
  by_cases hlt : i < 4
  · obtain rfl | rfl | rfl | rfl : i = 0 ∨ i = 1 ∨ i = 2 ∨ i = 3 := by omega
    · refine gw ?_
      refine n_callM (Y := PO) (pairIds A) (pairMem A O (stA 0)) _ (fun O' => pairMem A O' (stA (0 + 1))) (fun _ => .bool true) (fun _ => .bool true) (fun O' => (∀ x ∈ (pairRes A O' (stA (0 + 1))).fp, b0 ≤ x) ∧ (stA (0 + 1)).ok 3 (0 + 1)) rfl rfl (fun _ => rfl) rfl (List.prefix_append _ _) (fun ids' hp => pair_sel ((List.prefix_append _ _).trans hp)) (pair_rw A O _) (fun _ _ => rfl) (fun _ w1 hp1 hI1 hR => played_on (hsf rfl rfl hI1).1 hfp (hsf rfl rfl hI1).2 hR ok (by omega) 5 0 0 ByteArray.empty 1 0 (by omega) (by decide)) ?_
      intro O' hO'
      (refine gs ?_)
      refine gw ?_
      exact n_again ⟨(0 + 1, O'), ⟨by dsimp only; omega, hO'.1, hO'.2⟩, by dsimp only; omega, (by (repeat (first | exact trivial | refine ⟨⟨rfl, rfl⟩, ?_⟩))), ⟨_, rfl⟩⟩
    · refine gw ?_
      refine n_callM (Y := PO) (pairIds A) (pairMem A O (stA 1)) _ (fun O' => pairMem A O' (stA (1 + 1))) (fun _ => .bool true) (fun _ => .bool true) (fun O' => (∀ x ∈ (pairRes A O' (stA (1 + 1))).fp, b0 ≤ x) ∧ (stA (1 + 1)).ok 3 (1 + 1)) rfl rfl (fun _ => rfl) rfl (List.prefix_append _ _) (fun ids' hp => pair_sel ((List.prefix_append _ _).trans hp)) (pair_rw A O _) (fun _ _ => rfl) (fun _ w1 hp1 hI1 hR => played_on (hsf rfl rfl hI1).1 hfp (hsf rfl rfl hI1).2 hR ok (by omega) 7 0 1 nmA 4 9 (by omega) (by decide)) ?_
      intro O' hO'
      (refine gs ?_)
      refine gw ?_
      exact n_again ⟨(1 + 1, O'), ⟨by dsimp only; omega, hO'.1, hO'.2⟩, by dsimp only; omega, (by (repeat (first | exact trivial | refine ⟨⟨rfl, rfl⟩, ?_⟩))), ⟨_, rfl⟩⟩
    · refine gw ?_
      refine n_callM (Y := PO) (pairIds A) (pairMem A O (stA 2)) _ (fun O' => pairMem A O' (stA (2 + 1))) (fun _ => .bool true) (fun _ => .bool true) (fun O' => (∀ x ∈ (pairRes A O' (stA (2 + 1))).fp, b0 ≤ x) ∧ (stA (2 + 1)).ok 3 (2 + 1)) rfl rfl (fun _ => rfl) rfl (List.prefix_append _ _) (fun ids' hp => pair_sel ((List.prefix_append _ _).trans hp)) (pair_rw A O _) (fun _ _ => rfl) (fun _ w1 hp1 hI1 hR => played_on (hsf rfl rfl hI1).1 hfp (hsf rfl rfl hI1).2 hR ok (by omega) 7 0 2 nmA 6 2 (by omega) (by decide)) ?_
      intro O' hO'
      (refine gs ?_)
      refine gw ?_
      exact n_again ⟨(2 + 1, O'), ⟨by dsimp only; omega, hO'.1, hO'.2⟩, by dsimp only; omega, (by (repeat (first | exact trivial | refine ⟨⟨rfl, rfl⟩, ?_⟩))), ⟨_, rfl⟩⟩
    · refine gw ?_
      refine n_callM (Y := PO) (pairIds A) (pairMem A O (stA 3)) _ (fun O' => pairMem A O' (stA (3 + 1))) (fun _ => .bool true) (fun _ => .bool true) (fun O' => (∀ x ∈ (pairRes A O' (stA (3 + 1))).fp, b0 ≤ x) ∧ (stA (3 + 1)).ok 3 (3 + 1)) rfl rfl (fun _ => rfl) rfl (List.prefix_append _ _) (fun ids' hp => pair_sel ((List.prefix_append _ _).trans hp)) (pair_rw A O _) (fun _ _ => rfl) (fun _ w1 hp1 hI1 hR => played_on (hsf rfl rfl hI1).1 hfp (hsf rfl rfl hI1).2 hR ok (by omega) 1 0 0 nmA 5 2 (by omega) (by decide)) ?_
      intro O' hO'
      (refine gs ?_)
      refine gw ?_
      exact n_again ⟨(3 + 1, O'), ⟨by dsimp only; omega, hO'.1, hO'.2⟩, by dsimp only; omega, (by (repeat (first | exact trivial | refine ⟨⟨rfl, rfl⟩, ?_⟩))), ⟨_, rfl⟩⟩
  · obtain rfl : i = 4 := by omega
    refine gw ?_
    refine n_exit rfl ?_
    (refine gs ?_)
    refine gg ?_
    have hme : -10 ≤ (stA 4).G.me ∧ (stA 4).G.me ≤ 1000 := by have := ok.gme; have := ok.v.me; have := ok.v.mein; omega
    have hvl : (stA 4).V.ns.length ≤ 1000 := by rw [ok.v.len]; omega
    have hT1 : ∀ w1 : World, (gossRes A.pg A.mg (stA 4).G).R w1 → Blk w1 A.pl (stA 4).l.cells 80 → (viewsRes A.pv A.mv A.nv (stA 4).V).R w1 → A.pl ∉ (gossRes A.pg A.mg (stA 4).G).fp → A.pl ∉ (viewsRes A.pv A.mv A.nv (stA 4).V).fp → (∀ x ∈ (gossRes A.pg A.mg (stA 4).G).fp, x ∉ (viewsRes A.pv A.mv A.nv (stA 4).V).fp) →
        Calls Tryz.prog 14 #[pV A.pg, .string nmA, pV A.pl, pV A.pv] w1 fun e w' => e = .returned (tickV (2, (4, 2), true)) ∧ Post (gossRes A.pg A.mg (stA 4).G) (gossRes A.pg A.mg ((stA 4).G.tick nmA (stA 4).l.d (stA 4).l.u (rKnownL (stA 4).RV.All nmA 3)).1) w1 w' := by
      intro w1 h1 h2 h3 h4 h5 h6
      have := Tick_ok h1 hme h2 h3 h4 h5 h6 hvl nmA (by decide)
      rw [ok.v.len, known_like ok.v nmA, aliveTick] at this
      exact this
    generalize ((stA 4).G.tick nmA (stA 4).l.d (stA 4).l.u (rKnownL (stA 4).RV.All nmA 3)).1 = G' at hT1
    refine n_both ?_ ?_
    · (refine gs ?_)
      refine n_callR (Y := Unit) 1 (fun _ => gossRes A.pg A.mg G') (fun _ => .tup [.int .i64 2, .agg [.int .i64 4, .int .i64 2], .bool true]) (fun _ => .tuple #[.int .i64 2, .agg #[.int .i64 4, .int .i64 2], .bool true]) (fun _ => True) rfl rfl (fun _ => rfl) rfl rfl rfl (fun _ w1 hp1 hI1 hR => (hT1 w1 hR (hI1.blk_at hp1 2 rfl rfl rfl) (hI1.res 3 rfl rfl) (hI1.ne_res 2 1 (by decide) rfl (pre_at hp1 rfl) rfl rfl rfl) (hI1.ne_res 2 3 (by decide) rfl (pre_at hp1 rfl) rfl rfl rfl) (hI1.res_res 1 3 (by decide) rfl rfl rfl rfl)).mono fun e w' ⟨he, hf⟩ => ⟨(), he, trivial, hf⟩) ?_
      intro _ _
      (refine gs ?_)
      refine gw ?_
      refine n_sameP (.bool true) rfl rfl rfl (fun _ w1 hp1 hI1 => (same_ok (4, 2) (4, 2) w1).mono fun e w' ⟨h1, h2⟩ => ⟨by simpa using h1, h2⟩) ?_; (refine gs ?_)
      refine gw ?_
      exact n_ret0 rfl rfl fun ids' w' hp hI' => ⟨rfl, hI'.frm⟩
    · (refine gs ?_)
      refine gg ?_
      refine n_callR (Y := Unit) 1 (fun _ => gossRes A.pg A.mg G') (fun _ => .tup [.int .i64 2, .agg [.int .i64 4, .int .i64 2], .bool true]) (fun _ => .tuple #[.int .i64 2, .agg #[.int .i64 4, .int .i64 2], .bool true]) (fun _ => True) rfl rfl (fun _ => rfl) rfl rfl rfl (fun _ w1 hp1 hI1 hR => (hT1 w1 hR (hI1.blk_at hp1 2 rfl rfl rfl) (hI1.res 3 rfl rfl) (hI1.ne_res 2 1 (by decide) rfl (pre_at hp1 rfl) rfl rfl rfl) (hI1.ne_res 2 3 (by decide) rfl (pre_at hp1 rfl) rfl rfl rfl) (hI1.res_res 1 3 (by decide) rfl rfl rfl rfl)).mono fun e w' ⟨he, hf⟩ => ⟨(), he, trivial, hf⟩) ?_
      intro _ _
      (refine gs ?_)
      refine gw ?_
      refine n_sameP (.bool true) rfl rfl rfl (fun _ w1 hp1 hI1 => (same_ok (4, 2) (4, 2) w1).mono fun e w' ⟨h1, h2⟩ => ⟨by simpa using h1, h2⟩) ?_; (refine gs ?_)
      refine gw ?_
      exact n_ret0 rfl rfl fun ids' w' hp hI' => ⟨rfl, hI'.frm⟩
end
section
set_option maxRecDepth 100000
set_option linter.unusedSimpArgs false
set_option linter.unusedVariables false
set_option maxHeartbeats 4000000
open Go.RowKit

theorem lookN_zero {l : List Int} (h : ∀ i, l.getD i 0 = 0) (fr : Nat) : ∀ k, lookN l (-1, 0) fr k = (-1, 0)
  | 0 => rfl
  | k + 1 => by rw [lookN_next, lookN_zero h fr k, lookS, if_neg (by rw [h]; simp)]
theorem askF_zero {l : List Int} (h : ∀ i, l.getD i 0 = 0) (me : Int) : askF me l = -1 := by
  unfold askF
  split
  · rw [lookN_zero h, lookN_zero h]
  · rw [lookN_zero h]
theorem kind_zero {K : List (Int × Int)} (h : ∀ x ∈ K, x = (0, 0)) (b : Bool) (i : Nat) : (K.map (kindF b)).getD i 0 = 0 := by
  rw [List.getD_eq_getElem?_getD, List.getElem?_map]
  cases hx : K[i]? with
  | none => rfl
  | some x =>
    have := h x (List.mem_of_getElem? hx)
    subst this
    cases b <;> rfl
theorem toF_zero {K : List (Int × Int)} (h : ∀ x ∈ K, x = (0, 0)) (me wd wu : Int) : toF me wd wu K < 0 := by
  unfold toF
  rw [askF_zero (kind_zero h true), askF_zero (kind_zero h false)]
  split <;> split <;> omega
theorem known_nil (nm : ByteArray) (n : Nat) : ∀ x ∈ knownL [] nm n, x = (0, 0) := by
  intro x hx
  unfold knownL at hx
  obtain ⟨i, _, rfl⟩ := List.mem_map.1 hx
  rfl
theorem tick_apart {s : Gs} (hnd : (s.m.map (·.1)).Nodup) (nm : ByteArray) (d u : Int) {K : List (Int × Int)} (h : ∀ x ∈ K, x = (0, 0)) :
    (s.tick nm d u K).2.2.2 = false ∧ (∀ nm', nm ≠ nm' → (s.tick nm d u K).1.lack nm' = s.lack nm') ∧ (s.tick nm d u K).1.me = s.me := by
  unfold Gs.tick tickW
  split
  · refine ⟨rfl, fun nm' hne => ?_, rfl⟩
    unfold Gs.lack
    dsimp only
    rw [mget_del _ _ hnd, if_neg hne]
  · rw [if_pos (toF_zero h _ _ _)]
    exact ⟨rfl, fun _ _ => rfl, rfl⟩
def fairB (d u : Int) : Prop := 0 ≤ d ∧ 0 ≤ u ∧ d ≤ 1099511627776 ∧ u ≤ 1099511627776
theorem need_fair (s : Gs) {nm : ByteArray} {d u : Int} (h : fairB d u) (nm' : ByteArray) : (s.need nm d u).lack nm' = if nm = nm' then (max (s.lack nm).1 d, max (s.lack nm).2 u) else s.lack nm' := by
  obtain ⟨h1, h2, h3, h4⟩ := h
  unfold Gs.need
  rw [if_neg (by omega)]
  conv => lhs; unfold Gs.lack
  dsimp only
  rw [mget_put]
  by_cases e : nm = nm'
  · rw [if_pos e, if_pos e]; rfl
  · rw [if_neg e, if_neg e]; rfl
theorem need_not (s : Gs) {nm : ByteArray} {d u : Int} (h : ¬ fairB d u) : s.need nm d u = s := by
  unfold Gs.need
  rw [if_pos]
  unfold fairB at h
  omega
/-- What the loop carries. -/
structure Apart (n : Int) (s : Gs) : Prop where
  me : -10 ≤ s.me ∧ s.me ≤ 1000
  k : (s.lack nmA).2 = 0
  nd : (s.m.map (·.1)).Nodup
theorem Need_on {p mb : Nat} {s : Gs} {w : World} (hR : (gossRes p mb s).R w) (nm : ByteArray) (hnm : nm.size ≤ maxLen) (d u : Int) :
    Calls Tryz.prog 8 #[pV p, .string nm, rtV (d, u)] w fun e w' => ∃ y : Unit, e = .returned (.tuple #[]) ∧ (((s.need nm d u).m.map (·.1)).Nodup) ∧ Post (gossRes p mb s) (gossRes p mb (s.need nm d u)) w w' :=
  (Need_ok hR nm hnm d u).mono fun e w' ⟨he, hP⟩ => ⟨(), he, hP.2.1.2.1.nodup, hP⟩
theorem cap1000 : capB 1000 = true := by decide
end
end Go.Proofs.YtglafgpjgkphkaaGreatDoor
