/- Chapter 12: ticks. Chapter 12: tells. Chapter 12: played. -/
import Derived.Test.YtglafgpjgkphkaaGreatDoorBnGe
namespace Go.Proofs.YtglafgpjgkphkaaGreatDoor
section
set_option maxRecDepth 100000
set_option linter.unusedSimpArgs false
set_option linter.unusedVariables false
set_option maxHeartbeats 8000000
open Go.RowKit

def PS.tick (S : PS) (nm : ByteArray) (n : Nat) : PS := { S with G := (S.G.tick nm S.l.d S.l.u (knownL S.V.V nm n)).1, RG := (S.RG.tick nm S.l.d S.l.u (rKnownL S.RV.All nm n)).1 }
theorem bytes0 {A : PA} {O : PO} {S : PS} {w : World} (hR : (pairRes A O S).R w) : (S.G.m.map (·.1)).Nodup ∧ (S.V.V.map (·.1)).Nodup := ⟨(memRes_res hR 1 rfl rfl).2.1.nodup, (memRes_res hR 3 rfl rfl).2.1.nodup⟩
theorem tick_len (s : Rg) (nm : ByteArray) (d u : Int) (K : List (Int × Int)) : (s.tick nm d u K).1.All.length = s.All.length ∧ (s.tick nm d u K).1.me = s.me ∧ (s.tick nm d u K).1.n = s.n := by
  unfold Rg.tick tickWR
  repeat' split
  all_goals simp [Rg.clear]
theorem gtick_same (s : Gs) (nm : ByteArray) (d u : Int) (K : List (Int × Int)) : (s.tick nm d u K).1.me = s.me ∧ (s.tick nm d u K).1.n = s.n := by
  unfold Gs.tick tickW
  repeat' split
  all_goals exact ⟨rfl, rfl⟩
theorem PS.ok.tick {S : PS} {n K : Nat} (h : S.ok n K) (hnd : (S.G.m.map (·.1)).Nodup) (nm : ByteArray) : (S.tick nm n).ok n K := by
  have e := known_like h.v nm
  have g1 := gtick_same S.G nm S.l.d S.l.u (knownL S.V.V nm n)
  have g2 := tick_len S.RG nm S.l.d S.l.u (rKnownL S.RV.All nm n)
  refine ⟨h.l, ?_, h.v, g1.1.trans h.gme, g1.2.trans h.gn, h.n2, h.n16, ?_, h.va, h.ver⟩
  · unfold PS.tick
    dsimp only
    rw [e]
    exact (tick_like h.g hnd nm S.l.d S.l.u (rKnownL S.RV.All nm n)).2
  · have := h.ga
    unfold PS.tick
    dsimp only
    omega

theorem ticks_ok {A : PA} {O : PO} {S : PS} {n K : Nat} {w : World} (hR : (pairRes A O S).R w) (ok : S.ok n K) (hK : K ≤ 1000) (nm : ByteArray) (hnm : nm.size ≤ maxLen) :
    Calls Tryz.prog 29 #[pV A.p, .string nm] w fun e w' => e = .returned (.bool true) ∧ Post (pairRes A O S) (pairRes A O (S.tick nm n)) w w' := by
  have hI : Inv (cx 105 [(1, .then [(0, []), (1, []), (2, []), (3, []), (4, []), (5, []), (6, []), (7, []), (8, []), (9, []), (10, []), (11, []), (12, [])] (.fork 13 [] (.of [(14, []), (15, []), (16, []), (17, []), (18, []), (19, []), (20, []), (21, [])]) (.cons 18 [12, 8, 3] (.of [(13, []), (14, []), (15, []), (16, []), (17, []), (19, []), (20, []), (21, [])])))), (2, .then [(0, []), (1, []), (2, []), (3, []), (4, []), (5, []), (6, []), (7, []), (8, []), (9, []), (10, []), (11, []), (12, [])] (.fork 13 [] (.of [(14, []), (15, []), (16, []), (17, []), (18, []), (19, []), (20, []), (21, [])]) (.cons 18 [12, 8, 3] (.of [(13, []), (14, []), (15, []), (16, []), (17, []), (19, []), (20, []), (21, [])])))), (5, .of [(0, []), (1, []), (2, []), (3, []), (4, []), (5, []), (6, []), (7, []), (8, []), (9, []), (10, []), (11, []), (12, []), (13, []), (14, []), (15, []), (16, []), (17, []), (19, []), (20, []), (21, []), (22, []), (18, [22]), (23, []), (24, []), (25, []), (26, []), (27, []), (28, []), (29, []), (30, []), (31, []), (32, []), (33, []), (34, []), (35, []), (36, [])])] (pairRes A O S).fp w) w (pairIds A) (pairMem A O S) := memRes_open hR fun x hx => hx
  obtain ⟨hndG, hndV⟩ := bytes0 hR
  have e := known_like ok.v nm
  have hlike := tick_like ok.g hndG nm S.l.d S.l.u (rKnownL S.RV.All nm n)
  have hab := about_like ok.v hndV nm
  have hme : -10 ≤ S.G.me ∧ S.G.me ≤ 1000 := by have := ok.gme; have := ok.v.me; have := ok.v.mein; have := ok.n16; omega
  have hme2 : -10 ≤ S.RG.me ∧ S.RG.me ≤ 1000 := by rw [← ok.g.me]; exact hme
  have hvl : S.V.ns.length ≤ 1000 := by rw [ok.v.len]; have := ok.n16; omega
  have hga := ok.ga
  have hva := ok.va
  have hn16 := ok.n16
  have htk : S.tick nm n = { S with G := (S.G.tick nm S.l.d S.l.u (knownL S.V.V nm n)).1, RG := (S.RG.tick nm S.l.d S.l.u (rKnownL S.RV.All nm n)).1 } := rfl
  rw [e] at htk
  have hT1 : ∀ w1 : World, (gossRes A.pg A.mg S.G).R w1 → Blk w1 A.pl S.l.cells 80 → (viewsRes A.pv A.mv A.nv S.V).R w1 → A.pl ∉ (gossRes A.pg A.mg S.G).fp → A.pl ∉ (viewsRes A.pv A.mv A.nv S.V).fp → (∀ x ∈ (gossRes A.pg A.mg S.G).fp, x ∉ (viewsRes A.pv A.mv A.nv S.V).fp) →
      Calls Tryz.prog 14 #[pV A.pg, .string nm, pV A.pl, pV A.pv] w1 fun e w' => e = .returned (tickV (S.G.tick nm S.l.d S.l.u (rKnownL S.RV.All nm n)).2) ∧ Post (gossRes A.pg A.mg S.G) (gossRes A.pg A.mg (S.G.tick nm S.l.d S.l.u (rKnownL S.RV.All nm n)).1) w1 w' := by
    intro w1 h1 h2 h3 h4 h5 h6
    have := Tick_ok h1 hme h2 h3 h4 h5 h6 hvl nm hnm
    rw [ok.v.len, e] at this
    exact this
  have hT2 : ∀ w1 : World, (rgRes A.prg O.oG O.cG S.RG).R w1 → Blk w1 A.prl S.l.cells 118 → (rvRes A.prv O.oV O.cV S.RV).R w1 → A.prl ∉ (rgRes A.prg O.oG O.cG S.RG).fp → A.prl ∉ (rvRes A.prv O.oV O.cV S.RV).fp → (∀ x ∈ (rgRes A.prg O.oG O.cG S.RG).fp, x ∉ (rvRes A.prv O.oV O.cV S.RV).fp) →
      Calls Tryz.prog 50 #[pV A.prg, .string nm, pV A.prl, pV A.prv] w1 fun e w' => e = .returned (tickV (S.G.tick nm S.l.d S.l.u (rKnownL S.RV.All nm n)).2) ∧ Post (rgRes A.prg O.oG O.cG S.RG) (rgRes A.prg O.oG O.cG (S.RG.tick nm S.l.d S.l.u (rKnownL S.RV.All nm n)).1) w1 w' := by
    intro w1 h1 h2 h3 h4 h5 h6
    have := rTick_ok h1 (by omega) hme2 h2 h3 (by omega) ok.v.rn (by omega) h4 h5 h6 nm
    rw [← hlike.1] at this
    exact this
  have hgs := gtick_same S.G nm S.l.d S.l.u (rKnownL S.RV.All nm n)
  generalize S.G.tick nm S.l.d S.l.u (rKnownL S.RV.All nm n) = T at hT1 hT2 htk hgs
  generalize S.RG.tick nm S.l.d S.l.u (rKnownL S.RV.All nm n) = T2 at hT2 htk
  obtain ⟨G', to, ⟨td, tu⟩, tis⟩ := T
  obtain ⟨RG', T2r⟩ := T2
  dsimp only at hT1 hT2 htk hgs
  rw [htk]
  refine calls_sm (cx 105 [(1, .then [(0, []), (1, []), (2, []), (3, []), (4, []), (5, []), (6, []), (7, []), (8, []), (9, []), (10, []), (11, []), (12, [])] (.fork 13 [] (.of [(14, []), (15, []), (16, []), (17, []), (18, []), (19, []), (20, []), (21, [])]) (.cons 18 [12, 8, 3] (.of [(13, []), (14, []), (15, []), (16, []), (17, []), (19, []), (20, []), (21, [])])))), (2, .then [(0, []), (1, []), (2, []), (3, []), (4, []), (5, []), (6, []), (7, []), (8, []), (9, []), (10, []), (11, []), (12, [])] (.fork 13 [] (.of [(14, []), (15, []), (16, []), (17, []), (18, []), (19, []), (20, []), (21, [])]) (.cons 18 [12, 8, 3] (.of [(13, []), (14, []), (15, []), (16, []), (17, []), (19, []), (20, []), (21, [])])))), (5, .of [(0, []), (1, []), (2, []), (3, []), (4, []), (5, []), (6, []), (7, []), (8, []), (9, []), (10, []), (11, []), (12, []), (13, []), (14, []), (15, []), (16, []), (17, []), (19, []), (20, []), (21, []), (22, []), (18, [22]), (23, []), (24, []), (25, []), (26, []), (27, []), (28, []), (29, []), (30, []), (31, []), (32, []), (33, []), (34, []), (35, []), (36, [])])] (pairRes A O S).fp w) (vals := [.ptr 0 0, .str nm]) mixed Tryz.func29 rfl rfl rfl hI rfl (st rfl ?_); conv => arg 3; whnf
  refine gg ?_
  refine n_both ?_ ?_
  · (refine gs ?_)
    refine n_callR (Y := Unit) 1 (fun _ => gossRes A.pg A.mg G') (fun _ => .tup [.int .i64 to, .agg [.int .i64 td, .int .i64 tu], .bool tis]) (fun _ => .tuple #[.int .i64 to, .agg #[.int .i64 td, .int .i64 tu], .bool tis]) (fun _ => True) rfl rfl (fun _ => rfl) rfl rfl rfl (fun _ w1 hp1 hI1 hR => (hT1 w1 hR (hI1.blk_at hp1 2 rfl rfl rfl) (hI1.res 3 rfl rfl) (hI1.ne_res 2 1 (by decide) rfl (pre_at hp1 rfl) rfl rfl rfl) (hI1.ne_res 2 3 (by decide) rfl (pre_at hp1 rfl) rfl rfl rfl) (hI1.res_res 1 3 (by decide) rfl rfl rfl rfl)).mono fun e w' ⟨he, hf⟩ => ⟨(), he, trivial, hf⟩) ?_
    intro _ _
    (refine gs ?_)
    refine gg ?_
    refine n_both ?_ ?_
    · (refine gs ?_)
      refine n_callR (Y := Unit) 4 (fun _ => rgRes A.prg O.oG O.cG RG') (fun _ => .tup [.int .i64 to, .agg [.int .i64 td, .int .i64 tu], .bool tis]) (fun _ => .tuple #[.int .i64 to, .agg #[.int .i64 td, .int .i64 tu], .bool tis]) (fun _ => True) rfl rfl (fun _ => rfl) rfl rfl rfl (fun _ w1 hp1 hI1 hR => (hT2 w1 hR (hI1.blk_at hp1 5 rfl rfl rfl) (hI1.res 6 rfl rfl) (hI1.ne_res 5 4 (by decide) rfl (pre_at hp1 rfl) rfl rfl rfl) (hI1.ne_res 5 6 (by decide) rfl (pre_at hp1 rfl) rfl rfl rfl) (hI1.res_res 4 6 (by decide) rfl rfl rfl rfl)).mono fun e w' ⟨he, hf⟩ => ⟨(), he, trivial, hf⟩) ?_
      intro _ _
      (refine gs ?_)
      refine gg ?_
      refine n_sameP (.tup [.int .i64 (wr (rAboutD S.RV.All nm n)), .bool (rAboutB S.RV.All nm n)]) rfl rfl rfl (fun _ w1 hp1 hI1 => hab.1 ▸ hab.2 ▸ About_ok (hI1.res 3 rfl rfl) nm hnm) ?_; (refine gs ?_)
      refine gg ?_
      refine n_sameP (.tup [.int .i64 (wr (rAboutD S.RV.All nm n)), .bool (rAboutB S.RV.All nm n)]) rfl rfl rfl (fun _ w1 hp1 hI1 => rAbout_ok (hI1.res 6 rfl rfl) (by omega) ok.v.rn (by omega) nm) ?_; (refine gs ?_)
      refine gw ?_
      refine n_sameP (.bool true) rfl rfl rfl (fun _ w1 hp1 hI1 => (same_ok (td, tu) (td, tu) w1).mono fun e w' ⟨h1, h2⟩ => ⟨by simpa using h1, h2⟩) ?_; (refine gs ?_)
      refine gw ?_
      refine n_sameP (.agg [.int .i64 S.l.d, .int .i64 S.l.u]) rfl rfl rfl (fun _ w1 hp1 hI1 => Rights_ok S.l (hI1.blk_at hp1 2 rfl rfl rfl)) ?_; (refine gs ?_)
      refine gw ?_
      refine n_sameP (.agg [.int .i64 S.l.d, .int .i64 S.l.u]) rfl rfl rfl (fun _ w1 hp1 hI1 => rRights_ok S.l (hI1.blk_at hp1 5 rfl rfl rfl)) ?_; (refine gs ?_)
      refine gw ?_
      refine n_sameP (.bool true) rfl rfl rfl (fun _ w1 hp1 hI1 => (same_ok (S.l.d, S.l.u) (S.l.d, S.l.u) w1).mono fun e w' ⟨h1, h2⟩ => ⟨by simpa using h1, h2⟩) ?_; (refine gs ?_)
      refine gw ?_
      refine n_ret0 rfl rfl fun ids' w' hp hI' => ⟨ret_bool (by simp), ?_⟩
      rw [← hgs.1, ← hgs.2] at hI'
      exact pair_post (O' := O) (S' := { S with G := G', RG := RG' }) hI' rfl rfl hp
    · (refine gs ?_)
      refine gg ?_
      refine n_callR (Y := Unit) 4 (fun _ => rgRes A.prg O.oG O.cG RG') (fun _ => .tup [.int .i64 to, .agg [.int .i64 td, .int .i64 tu], .bool tis]) (fun _ => .tuple #[.int .i64 to, .agg #[.int .i64 td, .int .i64 tu], .bool tis]) (fun _ => True) rfl rfl (fun _ => rfl) rfl rfl rfl (fun _ w1 hp1 hI1 hR => (hT2 w1 hR (hI1.blk_at hp1 5 rfl rfl rfl) (hI1.res 6 rfl rfl) (hI1.ne_res 5 4 (by decide) rfl (pre_at hp1 rfl) rfl rfl rfl) (hI1.ne_res 5 6 (by decide) rfl (pre_at hp1 rfl) rfl rfl rfl) (hI1.res_res 4 6 (by decide) rfl rfl rfl rfl)).mono fun e w' ⟨he, hf⟩ => ⟨(), he, trivial, hf⟩) ?_
      intro _ _
      (refine gs ?_)
      refine gg ?_
      refine n_sameP (.tup [.int .i64 (wr (rAboutD S.RV.All nm n)), .bool (rAboutB S.RV.All nm n)]) rfl rfl rfl (fun _ w1 hp1 hI1 => hab.1 ▸ hab.2 ▸ About_ok (hI1.res 3 rfl rfl) nm hnm) ?_; (refine gs ?_)
      refine gg ?_
      refine n_sameP (.tup [.int .i64 (wr (rAboutD S.RV.All nm n)), .bool (rAboutB S.RV.All nm n)]) rfl rfl rfl (fun _ w1 hp1 hI1 => rAbout_ok (hI1.res 6 rfl rfl) (by omega) ok.v.rn (by omega) nm) ?_; (refine gs ?_)
      refine gw ?_
      refine n_sameP (.bool true) rfl rfl rfl (fun _ w1 hp1 hI1 => (same_ok (td, tu) (td, tu) w1).mono fun e w' ⟨h1, h2⟩ => ⟨by simpa using h1, h2⟩) ?_; (refine gs ?_)
      refine gw ?_
      refine n_sameP (.agg [.int .i64 S.l.d, .int .i64 S.l.u]) rfl rfl rfl (fun _ w1 hp1 hI1 => Rights_ok S.l (hI1.blk_at hp1 2 rfl rfl rfl)) ?_; (refine gs ?_)
      refine gw ?_
      refine n_sameP (.agg [.int .i64 S.l.d, .int .i64 S.l.u]) rfl rfl rfl (fun _ w1 hp1 hI1 => rRights_ok S.l (hI1.blk_at hp1 5 rfl rfl rfl)) ?_; (refine gs ?_)
      refine gw ?_
      refine n_sameP (.bool true) rfl rfl rfl (fun _ w1 hp1 hI1 => (same_ok (S.l.d, S.l.u) (S.l.d, S.l.u) w1).mono fun e w' ⟨h1, h2⟩ => ⟨by simpa using h1, h2⟩) ?_; (refine gs ?_)
      refine gw ?_
      refine n_ret0 rfl rfl fun ids' w' hp hI' => ⟨ret_bool (by simp), ?_⟩
      rw [← hgs.1, ← hgs.2] at hI'
      exact pair_post (O' := O) (S' := { S with G := G', RG := RG' }) hI' rfl rfl hp
  · (refine gs ?_)
    refine gg ?_
    refine n_callR (Y := Unit) 1 (fun _ => gossRes A.pg A.mg G') (fun _ => .tup [.int .i64 to, .agg [.int .i64 td, .int .i64 tu], .bool tis]) (fun _ => .tuple #[.int .i64 to, .agg #[.int .i64 td, .int .i64 tu], .bool tis]) (fun _ => True) rfl rfl (fun _ => rfl) rfl rfl rfl (fun _ w1 hp1 hI1 hR => (hT1 w1 hR (hI1.blk_at hp1 2 rfl rfl rfl) (hI1.res 3 rfl rfl) (hI1.ne_res 2 1 (by decide) rfl (pre_at hp1 rfl) rfl rfl rfl) (hI1.ne_res 2 3 (by decide) rfl (pre_at hp1 rfl) rfl rfl rfl) (hI1.res_res 1 3 (by decide) rfl rfl rfl rfl)).mono fun e w' ⟨he, hf⟩ => ⟨(), he, trivial, hf⟩) ?_
    intro _ _
    (refine gs ?_)
    refine gg ?_
    refine n_both ?_ ?_
    · (refine gs ?_)
      refine n_callR (Y := Unit) 4 (fun _ => rgRes A.prg O.oG O.cG RG') (fun _ => .tup [.int .i64 to, .agg [.int .i64 td, .int .i64 tu], .bool tis]) (fun _ => .tuple #[.int .i64 to, .agg #[.int .i64 td, .int .i64 tu], .bool tis]) (fun _ => True) rfl rfl (fun _ => rfl) rfl rfl rfl (fun _ w1 hp1 hI1 hR => (hT2 w1 hR (hI1.blk_at hp1 5 rfl rfl rfl) (hI1.res 6 rfl rfl) (hI1.ne_res 5 4 (by decide) rfl (pre_at hp1 rfl) rfl rfl rfl) (hI1.ne_res 5 6 (by decide) rfl (pre_at hp1 rfl) rfl rfl rfl) (hI1.res_res 4 6 (by decide) rfl rfl rfl rfl)).mono fun e w' ⟨he, hf⟩ => ⟨(), he, trivial, hf⟩) ?_
      intro _ _
      (refine gs ?_)
      refine gg ?_
      refine n_sameP (.tup [.int .i64 (wr (rAboutD S.RV.All nm n)), .bool (rAboutB S.RV.All nm n)]) rfl rfl rfl (fun _ w1 hp1 hI1 => hab.1 ▸ hab.2 ▸ About_ok (hI1.res 3 rfl rfl) nm hnm) ?_; (refine gs ?_)
      refine gg ?_
      refine n_sameP (.tup [.int .i64 (wr (rAboutD S.RV.All nm n)), .bool (rAboutB S.RV.All nm n)]) rfl rfl rfl (fun _ w1 hp1 hI1 => rAbout_ok (hI1.res 6 rfl rfl) (by omega) ok.v.rn (by omega) nm) ?_; (refine gs ?_)
      refine gw ?_
      refine n_sameP (.bool true) rfl rfl rfl (fun _ w1 hp1 hI1 => (same_ok (td, tu) (td, tu) w1).mono fun e w' ⟨h1, h2⟩ => ⟨by simpa using h1, h2⟩) ?_; (refine gs ?_)
      refine gw ?_
      refine n_sameP (.agg [.int .i64 S.l.d, .int .i64 S.l.u]) rfl rfl rfl (fun _ w1 hp1 hI1 => Rights_ok S.l (hI1.blk_at hp1 2 rfl rfl rfl)) ?_; (refine gs ?_)
      refine gw ?_
      refine n_sameP (.agg [.int .i64 S.l.d, .int .i64 S.l.u]) rfl rfl rfl (fun _ w1 hp1 hI1 => rRights_ok S.l (hI1.blk_at hp1 5 rfl rfl rfl)) ?_; (refine gs ?_)
      refine gw ?_
      refine n_sameP (.bool true) rfl rfl rfl (fun _ w1 hp1 hI1 => (same_ok (S.l.d, S.l.u) (S.l.d, S.l.u) w1).mono fun e w' ⟨h1, h2⟩ => ⟨by simpa using h1, h2⟩) ?_; (refine gs ?_)
      refine gw ?_
      refine n_ret0 rfl rfl fun ids' w' hp hI' => ⟨ret_bool (by simp), ?_⟩
      rw [← hgs.1, ← hgs.2] at hI'
      exact pair_post (O' := O) (S' := { S with G := G', RG := RG' }) hI' rfl rfl hp
    · (refine gs ?_)
      refine gg ?_
      refine n_callR (Y := Unit) 4 (fun _ => rgRes A.prg O.oG O.cG RG') (fun _ => .tup [.int .i64 to, .agg [.int .i64 td, .int .i64 tu], .bool tis]) (fun _ => .tuple #[.int .i64 to, .agg #[.int .i64 td, .int .i64 tu], .bool tis]) (fun _ => True) rfl rfl (fun _ => rfl) rfl rfl rfl (fun _ w1 hp1 hI1 hR => (hT2 w1 hR (hI1.blk_at hp1 5 rfl rfl rfl) (hI1.res 6 rfl rfl) (hI1.ne_res 5 4 (by decide) rfl (pre_at hp1 rfl) rfl rfl rfl) (hI1.ne_res 5 6 (by decide) rfl (pre_at hp1 rfl) rfl rfl rfl) (hI1.res_res 4 6 (by decide) rfl rfl rfl rfl)).mono fun e w' ⟨he, hf⟩ => ⟨(), he, trivial, hf⟩) ?_
      intro _ _
      (refine gs ?_)
      refine gg ?_
      refine n_sameP (.tup [.int .i64 (wr (rAboutD S.RV.All nm n)), .bool (rAboutB S.RV.All nm n)]) rfl rfl rfl (fun _ w1 hp1 hI1 => hab.1 ▸ hab.2 ▸ About_ok (hI1.res 3 rfl rfl) nm hnm) ?_; (refine gs ?_)
      refine gg ?_
      refine n_sameP (.tup [.int .i64 (wr (rAboutD S.RV.All nm n)), .bool (rAboutB S.RV.All nm n)]) rfl rfl rfl (fun _ w1 hp1 hI1 => rAbout_ok (hI1.res 6 rfl rfl) (by omega) ok.v.rn (by omega) nm) ?_; (refine gs ?_)
      refine gw ?_
      refine n_sameP (.bool true) rfl rfl rfl (fun _ w1 hp1 hI1 => (same_ok (td, tu) (td, tu) w1).mono fun e w' ⟨h1, h2⟩ => ⟨by simpa using h1, h2⟩) ?_; (refine gs ?_)
      refine gw ?_
      refine n_sameP (.agg [.int .i64 S.l.d, .int .i64 S.l.u]) rfl rfl rfl (fun _ w1 hp1 hI1 => Rights_ok S.l (hI1.blk_at hp1 2 rfl rfl rfl)) ?_; (refine gs ?_)
      refine gw ?_
      refine n_sameP (.agg [.int .i64 S.l.d, .int .i64 S.l.u]) rfl rfl rfl (fun _ w1 hp1 hI1 => rRights_ok S.l (hI1.blk_at hp1 5 rfl rfl rfl)) ?_; (refine gs ?_)
      refine gw ?_
      refine n_sameP (.bool true) rfl rfl rfl (fun _ w1 hp1 hI1 => (same_ok (S.l.d, S.l.u) (S.l.d, S.l.u) w1).mono fun e w' ⟨h1, h2⟩ => ⟨by simpa using h1, h2⟩) ?_; (refine gs ?_)
      refine gw ?_
      refine n_ret0 rfl rfl fun ids' w' hp hI' => ⟨ret_bool (by simp), ?_⟩
      rw [← hgs.1, ← hgs.2] at hI'
      exact pair_post (O' := O) (S' := { S with G := G', RG := RG' }) hI' rfl rfl hp

abbrev lim : Int := 1099511627776
def PS.tells (S : PS) (n : Nat) (a : Int) (nm : ByteArray) (d u : Int) : PS :=
  if withinF a 0 (n - 1) = S.G.me then { S with V := (S.V.tell ⟨nm, lim, 0, 1, d, u, 0⟩).1, RV := (S.RV.tell ⟨nm, lim, 0, 1, d, u, 0⟩).1 } else
  { S with ver := S.ver + 1, V := (S.V.take (withinF a 0 (n - 1)) [⟨nm, lim, 0, S.ver + 1, d, u, 0⟩]).1, RV := (S.RV.take (withinF a 0 (n - 1)) [⟨nm, lim, 0, S.ver + 1, d, u, 0⟩]).1 }
theorem tell_len (r : Rv) (x : Vw) : (r.tell x).1.All.length ≤ r.All.length + 1 := by
  unfold Rv.tell
  repeat' split
  all_goals simp
theorem rtake_len (r : Rv) (k : Int) (x : Vw) : (r.take k [x]).1.All.length ≤ r.All.length + 1 := by
  unfold Rv.take
  repeat' split
  all_goals try (simp; done)
  have := (takesR_len r.All k [x] 1 (by simp)).1
  simpa using this
theorem vtell_me (s : Vs) (x : Vw) : (s.tell x).1.me = s.me := by
  unfold Vs.tell
  repeat' split
  all_goals rfl
theorem vtake_me (s : Vs) (k : Int) (x : Vw) : (s.take k [x]).1.me = s.me := by
  unfold Vs.take
  repeat' split
  all_goals try rfl
  unfold Vs.takes
  simp only [List.foldl_cons, List.foldl_nil]
  unfold Vs.take1
  split <;> rfl
theorem PS.ok.tells {S : PS} {n K : Nat} (h : S.ok n K) (hK : K ≤ 1000) (a : Int) (nm : ByteArray) (d u : Int) : (S.tells n a nm d u).ok n (K + 1) := by
  have hva := h.va
  have hv := h.ver
  have hga := h.ga
  unfold PS.tells
  split
  · refine ⟨h.l, h.g, (tell_like h.v (by omega) nm lim 0 d u 0).2, h.gme.trans (vtell_me _ _).symm, h.gn, h.n2, h.n16, by dsimp only; omega, ?_, by dsimp only; omega⟩
    have := tell_len S.RV ⟨nm, lim, 0, 1, d, u, 0⟩
    dsimp only
    omega
  · refine ⟨h.l, h.g, (take_like h.v _ _).2, h.gme.trans (vtake_me _ _ _).symm, h.gn, h.n2, h.n16, by dsimp only; omega, ?_, by dsimp only; omega⟩
    have := rtake_len S.RV (withinF a 0 (n - 1)) ⟨nm, lim, 0, S.ver + 1, d, u, 0⟩
    dsimp only
    omega

abbrev opV (k who a : Int) (nm : ByteArray) (d u : Int) : Array Value := #[.int .i64 k, .int .i64 who, .int .i64 a, .string nm, .int .i64 d, .int .i64 u]
abbrev opS (k who a : Int) (nm : ByteArray) (d u : Int) : List SV := [.int .i64 k, .int .i64 who, .int .i64 a, .str nm, .int .i64 d, .int .i64 u]
theorem elemView : sliceElem Tryz.prog 75 = some 104 := by kernel_rfl

theorem tells_ok {A : PA} {O : PO} {S : PS} {n K : Nat} {w : World} (hR : (pairRes A O S).R w) (ok : S.ok n K) (hK : K ≤ 1000) (k who a : Int) (nm : ByteArray) (d u : Int) (ha : i64 a) (hnm : nm.size ≤ maxLen) :
    Calls Tryz.prog 36 #[pV A.p, .agg (opV k who a nm d u)] w fun e w' => ∃ O' : PO, e = .returned (.bool true) ∧ True ∧ Post (pairRes A O S) (pairRes A O' (S.tells n a nm d u)) w w' := by
  have hI : Inv (cx 92 [(6, .of [(0, []), (1, []), (2, []), (3, []), (4, []), (5, []), (6, []), (7, []), (8, []), (9, [7, 5, 1]), (10, [])]), (7, .of [(0, []), (1, []), (2, []), (3, []), (4, []), (5, []), (6, [3]), (7, []), (8, []), (9, []), (10, []), (11, []), (12, [])]), (8, .of [(0, []), (1, []), (2, []), (3, []), (4, []), (5, []), (6, [3]), (7, []), (8, []), (9, []), (10, []), (11, []), (12, [])])] (pairRes A O S).fp w) w (pairIds A) (pairMem A O S) := memRes_open hR fun x hx => hx
  have hn2 := ok.n2
  have hn16 := ok.n16
  have hga := ok.ga
  have hva := ok.va
  have hver := ok.ver
  have hvl : S.V.ns.length ≤ 1000 := by rw [ok.v.len]; omega
  have hmein : 0 ≤ S.V.me ∧ S.V.me < S.V.ns.length := by rw [ok.v.len, ok.v.me]; exact ok.v.mein
  have hcnt : ∀ q : Int, 0 ≤ q → q < n → 0 ≤ cnt S.V.ns q ∧ cnt S.V.ns q ≤ 500000 := fun q h0 h1 => by
    rw [ok.v.cnt q h0 h1]
    have := namesF_len S.RV.All q
    omega
  have hnn : S.G.n = (n : Int) := ok.gn
  have en : IntKind.i64.wrap (S.G.n - 1) = (n : Int) - 1 := by rw [hnn, w64 (by omega) (by omega)]
  have hwb := within_le (x := a) (show (0 : Int) ≤ (n : Int) - 1 by omega)
  have hS : S.tells n a nm d u = if withinF a 0 (n - 1) = S.G.me then { S with V := (S.V.tell ⟨nm, lim, 0, 1, d, u, 0⟩).1, RV := (S.RV.tell ⟨nm, lim, 0, 1, d, u, 0⟩).1 } else
    { S with ver := S.ver + 1, V := (S.V.take (withinF a 0 (n - 1)) [⟨nm, lim, 0, S.ver + 1, d, u, 0⟩]).1, RV := (S.RV.take (withinF a 0 (n - 1)) [⟨nm, lim, 0, S.ver + 1, d, u, 0⟩]).1 } := rfl
  refine calls_sm (cx 92 [(6, .of [(0, []), (1, []), (2, []), (3, []), (4, []), (5, []), (6, []), (7, []), (8, []), (9, [7, 5, 1]), (10, [])]), (7, .of [(0, []), (1, []), (2, []), (3, []), (4, []), (5, []), (6, [3]), (7, []), (8, []), (9, []), (10, []), (11, []), (12, [])]), (8, .of [(0, []), (1, []), (2, []), (3, []), (4, []), (5, []), (6, [3]), (7, []), (8, []), (9, []), (10, []), (11, []), (12, [])])] (pairRes A O S).fp w) (vals := [.ptr 0 0, .agg (opS k who a nm d u)]) mixed Tryz.func36 rfl rfl rfl hI rfl (st rfl ?_); conv => arg 3; whnf
  refine gw ?_
  rw [en]
  refine n_sameP (.int .i64 (withinF a 0 (n - 1))) rfl rfl rfl (fun _ w1 hp1 hI1 => within_ok a 0 (n - 1) ha (by omega) (by omega) (by omega) w1) ?_; (refine gs ?_)
  generalize withinF a 0 (n - 1) = fr at hwb hS ⊢
  refine gw ?_
  by_cases hme : fr = S.G.me
  · rw [if_pos hme] at hS
    rw [hS]
    have hlike := tell_like ok.v (by omega) nm lim 0 d u 0
    (repeat ((first | refine n_must rfl ?_ | refine n_chk (drawF_ok (by decide +kernel)) ?_ | refine n_same rfl ?_ | ((first | refine n_must ?_ ?_ | refine n_brT ?_ ?_); (focus (first | (simp [hme]; done) | (simp [hme]; omega) | (simp only [hme]; simp; done)))) | (refine n_brF ?_ ?_; (focus (first | (simp [hme]; done) | (simp [hme]; omega) | (simp only [hme]; simp; done)))) | refine n_must (by (with_reducible refine and_shape ?_) <;> kernel_rfl) ?_); (refine gs ?_)))
    refine n_callR (Y := Unit) 3 (fun _ => viewsRes A.pv A.mv A.nv (S.V.tell ⟨nm, lim, 0, 1, d, u, 0⟩).1) (fun _ => .int .i64 (S.V.tell ⟨nm, lim, 0, 1, d, u, 0⟩).2) (fun _ => .int .i64 (S.V.tell ⟨nm, lim, 0, 1, d, u, 0⟩).2) (fun _ => True) rfl rfl (fun _ => rfl) rfl rfl rfl (fun _ w1 hp1 hI1 hR => (Tell_ok hR hmein hvl (by have := hcnt S.V.me hmein.1 (by have := hmein.2; rw [ok.v.len] at this; exact this); omega) nm lim 0 d u 0 hnm).mono fun e w' ⟨he, hf⟩ => ⟨(), he, trivial, hf⟩) ?_
    intro _ _
    (refine gs ?_)
    refine gw ?_
    refine n_callR (Y := Option Addr × Nat) 6 (fun y => rvRes A.prv y.1 y.2 (S.RV.tell ⟨nm, lim, 0, 1, d, u, 0⟩).1) (fun _ => .int .i64 (S.RV.tell ⟨nm, lim, 0, 1, d, u, 0⟩).2) (fun _ => .int .i64 (S.RV.tell ⟨nm, lim, 0, 1, d, u, 0⟩).2) (fun _ => True) rfl rfl (fun _ => rfl) rfl rfl rfl (fun _ w1 hp1 hI1 hR => rTell_ok hR (by omega) nm lim 0 d u 0) ?_
    rintro ⟨o', c'⟩ _
    rw [hlike.1]
    (refine gs ?_)
    refine gw ?_
    exact n_ret0 rfl rfl fun ids' w' hp hI' => ⟨⟨O.oG, O.cG, o', c'⟩, ret_bool (by simp), trivial, pair_post (O' := ⟨O.oG, O.cG, o', c'⟩) (S' := { S with V := (S.V.tell ⟨nm, lim, 0, 1, d, u, 0⟩).1, RV := (S.RV.tell ⟨nm, lim, 0, 1, d, u, 0⟩).1 }) hI' rfl rfl hp⟩
  · rw [if_neg hme] at hS
    rw [hS]
    have ev : IntKind.i64.wrap (S.ver + 1) = S.ver + 1 := w64 (by omega) (by omega)
    have hlike := take_like ok.v fr [⟨nm, lim, 0, S.ver + 1, d, u, 0⟩]
    (repeat ((first | refine n_must rfl ?_ | refine n_chk (drawF_ok (by decide +kernel)) ?_ | refine n_same rfl ?_ | ((first | refine n_must ?_ ?_ | refine n_brT ?_ ?_); (focus (first | (simp [hme]; done) | (simp [hme]; omega) | (simp only [hme]; simp; done)))) | (refine n_brF ?_ ?_; (focus (first | (simp [hme]; done) | (simp [hme]; omega) | (simp only [hme]; simp; done)))) | refine n_must (by (with_reducible refine and_shape ?_) <;> kernel_rfl) ?_); (refine gs ?_)))
    rw [ev]
    refine n_build1 rfl rfl elemView rfl rfl rfl rfl rfl rfl rfl rfl rfl ?_
    (refine gs ?_)
    refine gw ?_
    refine n_call3 rfl fun b1 b2 b3 => ?_
    refine n_callR (Y := Unit) 3 (fun _ => viewsRes A.pv A.mv A.nv (S.V.take fr [⟨nm, lim, 0, S.ver + 1, d, u, 0⟩]).1) (fun _ => .tup [.int .i64 (S.V.take fr [⟨nm, lim, 0, S.ver + 1, d, u, 0⟩]).2.1, .int .i64 (S.V.take fr [⟨nm, lim, 0, S.ver + 1, d, u, 0⟩]).2.2]) (fun _ => .tuple #[.int .i64 (S.V.take fr [⟨nm, lim, 0, S.ver + 1, d, u, 0⟩]).2.1, .int .i64 (S.V.take fr [⟨nm, lim, 0, S.ver + 1, d, u, 0⟩]).2.2]) (fun _ => True) rfl rfl (fun _ => rfl) rfl rfl rfl (fun _ w1 hp1 hI1 hR => (Take_ok hR hvl fr (by constructor <;> omega) (hcnt fr (by omega) (by omega)) (o := some ⟨b3, 0, none⟩) (L := [⟨nm, lim, 0, S.ver + 1, d, u, 0⟩]) 1 (cells_read (b := b3) (t := 104) (hI1.blk_at hp1 9 rfl rfl rfl)) (fun x hx => by
      obtain rfl := rd_fp hx
      exact (hI1.blk_at hp1 9 rfl rfl rfl).lt) (fun x hx hm => by
      obtain rfl := rd_fp hm
      exact hI1.ne_res 9 3 (by decide) rfl (pre_at hp1 rfl) rfl rfl rfl hx)).mono fun e w' ⟨he, hf⟩ => ⟨(), he, trivial, hf⟩) ?_
    intro _ _
    (refine gs ?_)
    refine gw ?_
    refine n_build1 rfl rfl elemView rfl rfl rfl rfl rfl rfl rfl rfl rfl ?_
    (refine gs ?_)
    refine gw ?_
    refine n_call1 rfl fun b4 => ?_
    refine n_callR (Y := Option Addr × Nat) 6 (fun y => rvRes A.prv y.1 y.2 (S.RV.take fr [⟨nm, lim, 0, S.ver + 1, d, u, 0⟩]).1) (fun _ => .tup [.int .i64 (S.RV.take fr [⟨nm, lim, 0, S.ver + 1, d, u, 0⟩]).2.1, .int .i64 (S.RV.take fr [⟨nm, lim, 0, S.ver + 1, d, u, 0⟩]).2.2]) (fun _ => .tuple #[.int .i64 (S.RV.take fr [⟨nm, lim, 0, S.ver + 1, d, u, 0⟩]).2.1, .int .i64 (S.RV.take fr [⟨nm, lim, 0, S.ver + 1, d, u, 0⟩]).2.2]) (fun _ => True) rfl rfl (fun _ => rfl) rfl rfl rfl (fun _ w1 hp1 hI1 hR => rTake_ok hR (by omega) fr (o2 := some ⟨b4, 0, none⟩) (L := [⟨nm, lim, 0, S.ver + 1, d, u, 0⟩]) 1 (cells_read (b := b4) (t := 104) (hI1.blk_at hp1 10 rfl rfl rfl)) (fun x hx => by
      obtain rfl := rd_fp hx
      exact (hI1.blk_at hp1 10 rfl rfl rfl).lt) (fun x hx hm => by
      obtain rfl := rd_fp hm
      exact hI1.ne_res 10 6 (by decide) rfl (pre_at hp1 rfl) rfl rfl rfl hx)) ?_
    rintro ⟨o', c'⟩ _
    rw [hlike.1]
    (refine gs ?_)
    refine gw ?_
    exact n_ret0 rfl rfl fun ids' w' hp hI' => ⟨⟨O.oG, O.cG, o', c'⟩, ret_bool (by simp), trivial, pair_post (O' := ⟨O.oG, O.cG, o', c'⟩) (S' := { S with ver := S.ver + 1, V := (S.V.take fr [⟨nm, lim, 0, S.ver + 1, d, u, 0⟩]).1, RV := (S.RV.take fr [⟨nm, lim, 0, S.ver + 1, d, u, 0⟩]).1 }) hI' rfl rfl ((List.prefix_append _ _).trans ((List.prefix_append _ _).trans hp))⟩
end
section
set_option maxRecDepth 100000
set_option linter.unusedSimpArgs false
set_option linter.unusedVariables false
set_option maxHeartbeats 8000000
open Go.RowKit

def PS.play (S : PS) (n : Nat) (k a : Int) (nm : ByteArray) (d u : Int) : PS :=
  if k = 1 then { S with G := S.G.need nm d u, RG := S.RG.need nm d u } else if k = 2 then S.tick nm n else if k = 3 then { S with l := S.l.give d u } else if k = 4 then S else
  if k = 5 then { S with l := (S.l.in_ d u).1 } else if k = 6 then { S with l := (S.l.out d u).1 } else if k = 7 then S.tells n a nm d u else S
theorem need_same (s : Gs) (nm : ByteArray) (d u : Int) : (s.need nm d u).me = s.me ∧ (s.need nm d u).n = s.n := by
  unfold Gs.need; split <;> exact ⟨rfl, rfl⟩
theorem rneed_len (s : Rg) (nm : ByteArray) (d u : Int) : (s.need nm d u).All.length ≤ s.All.length + 1 := by
  unfold Rg.need; split <;> simp
theorem PS.ok.mono {S : PS} {n K K' : Nat} (h : S.ok n K) (hk : K ≤ K') : S.ok n K' :=
  ⟨h.l, h.g, h.v, h.gme, h.gn, h.n2, h.n16, by have := h.ga; omega, by have := h.va; omega, by have := h.ver; omega⟩
theorem PS.ok.play {S : PS} {n K : Nat} (h : S.ok n K) (hK : K ≤ 1000) (hnd : (S.G.m.map (·.1)).Nodup) (k a : Int) (nm : ByteArray) (d u : Int) : (S.play n k a nm d u).ok n (K + 1) := by
  unfold PS.play
  split
  · have e := need_same S.G nm d u
    have := rneed_len S.RG nm d u
    have hga := h.ga
    have hva := h.va
    have hver := h.ver
    exact ⟨h.l, need_like h.g nm d u, h.v, e.1.trans h.gme, e.2.trans h.gn, h.n2, h.n16, by dsimp only; omega, by dsimp only; omega, by dsimp only; omega⟩
  split
  · exact (h.tick hnd nm).mono (by omega)
  split
  · have h' := h.mono (Nat.le_succ K)
    exact ⟨h.l.give d u, h'.g, h'.v, h'.gme, h'.gn, h'.n2, h'.n16, h'.ga, h'.va, h'.ver⟩
  split
  · exact h.mono (Nat.le_succ K)
  split
  · have h' := h.mono (Nat.le_succ K)
    exact ⟨Led.in_ok h.l d u, h'.g, h'.v, h'.gme, h'.gn, h'.n2, h'.n16, h'.ga, h'.va, h'.ver⟩
  split
  · have h' := h.mono (Nat.le_succ K)
    exact ⟨Led.out_ok h.l d u, h'.g, h'.v, h'.gme, h'.gn, h'.n2, h'.n16, h'.ga, h'.va, h'.ver⟩
  split
  · exact h.tells hK a nm d u
  · exact h.mono (Nat.le_succ K)
theorem pair_rw (A : PA) (O : PO) (S : PS) : ∀ i b, nth (pairMem A O S) i = some b → b.rw = true := by
  intro i b h
  match i, h with
  | 0, h => simp [nth] at h; subst h; rfl
  | 1, h => simp [nth] at h; subst h; rfl
  | 2, h => simp [nth] at h; subst h; rfl
  | 3, h => simp [nth] at h; subst h; rfl
  | 4, h => simp [nth] at h; subst h; rfl
  | 5, h => simp [nth] at h; subst h; rfl
  | 6, h => simp [nth] at h; subst h; rfl
  | n + 7, h => simp [nth] at h

theorem played_ok {b0 : Nat} {A : PA} {O : PO} {S : PS} {n K : Nat} {w : World} {a0 a1 a2 : Addr} (hs : Sents b0 w a0 a1 a2) (hb0 : ∀ x ∈ (pairRes A O S).fp, b0 ≤ x) (hB : b0 ≤ w.heap.size) (hR : (pairRes A O S).R w) (ok : S.ok n K) (hK : K ≤ 1000) (k who a : Int) (nm : ByteArray) (d u : Int) (ha : i64 a) (hnm : nm.size ≤ maxLen) :
    Calls Tryz.prog 13 #[pV A.p, .agg (opV k who a nm d u)] w fun e w' => ∃ O' : PO, e = .returned (.bool true) ∧ True ∧ Post (pairRes A O S) (pairRes A O' (S.play n k a nm d u)) w w' := by
  have hI : Inv (cx 133 [(8, .then [(0, []), (1, []), (2, []), (3, []), (4, []), (5, []), (6, []), (7, []), (8, []), (9, [])] (.fork 10 [] (.of [(11, []), (12, [])]) (.cons 11 [9, 7, 3] (.of [(10, []), (12, [])])))), (9, .of [(0, []), (1, []), (2, []), (3, []), (4, []), (5, []), (6, []), (7, []), (8, []), (9, []), (10, []), (11, [0]), (12, []), (13, []), (14, []), (15, []), (16, []), (17, []), (19, []), (20, []), (21, []), (22, []), (18, [22]), (23, []), (24, []), (25, []), (26, [])]), (11, .of [(0, []), (1, []), (2, []), (3, []), (4, []), (5, []), (7, []), (8, []), (9, []), (10, []), (11, []), (12, []), (6, [12, 10]), (13, []), (14, []), (15, [])])] (pairRes A O S).fp w) w (pairIds A) (pairMem A O S) := memRes_open hR fun x hx => hx
  have hga := ok.ga
  have hpl : b0 ≤ A.pl := hb0 _ (by simp [pairRes, memRes])
  have hS : S.play n k a nm d u = if k = 1 then { S with G := S.G.need nm d u, RG := S.RG.need nm d u } else if k = 2 then S.tick nm n else if k = 3 then { S with l := S.l.give d u } else if k = 4 then S else
    if k = 5 then { S with l := (S.l.in_ d u).1 } else if k = 6 then { S with l := (S.l.out d u).1 } else if k = 7 then S.tells n a nm d u else S := rfl
  have hsf : ∀ {c : Ctx} {w1 : World} {ids' : List Nat} {m : Mem}, c.S = (pairRes A O S).fp → c.w0 = w → Inv c w1 ids' m → Sents b0 w1 a0 a1 a2 ∧ b0 ≤ w1.heap.size := by
    rintro c w1 ids' m h1 rfl hI1
    exact ⟨hs.frm hI1.frm (by rw [h1]; exact hb0) hB, Nat.le_trans hB hI1.frm.size⟩
  refine calls_sm (cx 133 [(8, .then [(0, []), (1, []), (2, []), (3, []), (4, []), (5, []), (6, []), (7, []), (8, []), (9, [])] (.fork 10 [] (.of [(11, []), (12, [])]) (.cons 11 [9, 7, 3] (.of [(10, []), (12, [])])))), (9, .of [(0, []), (1, []), (2, []), (3, []), (4, []), (5, []), (6, []), (7, []), (8, []), (9, []), (10, []), (11, [0]), (12, []), (13, []), (14, []), (15, []), (16, []), (17, []), (19, []), (20, []), (21, []), (22, []), (18, [22]), (23, []), (24, []), (25, []), (26, [])]), (11, .of [(0, []), (1, []), (2, []), (3, []), (4, []), (5, []), (7, []), (8, []), (9, []), (10, []), (11, []), (12, []), (6, [12, 10]), (13, []), (14, []), (15, [])])] (pairRes A O S).fp w) (vals := [.ptr 0 0, .agg (opS k who a nm d u)]) mixed Tryz.func13 rfl rfl rfl hI rfl (st rfl ?_); conv => arg 3; whnf
  refine gg ?_
  by_cases h1 : k = 1
  · rw [if_pos h1] at hS
    rw [hS]
    (repeat ((first | refine n_must rfl ?_ | refine n_chk (drawF_ok (by decide +kernel)) ?_ | refine n_same rfl ?_ | ((first | refine n_must ?_ ?_ | refine n_brT ?_ ?_); (focus (first | (simp [h1]; done) | (simp [h1]; omega) | (simp only [h1]; simp; done)))) | (refine n_brF ?_ ?_; (focus (first | (simp [h1]; done) | (simp [h1]; omega) | (simp only [h1]; simp; done)))) | refine n_must (by (with_reducible refine and_shape ?_) <;> kernel_rfl) ?_); (refine gs ?_)))
    refine n_callR (Y := Unit) 1 (fun _ => gossRes A.pg A.mg (S.G.need nm d u)) (fun _ => .tup []) (fun _ => .tuple #[]) (fun _ => True) rfl rfl (fun _ => rfl) rfl rfl rfl (fun _ w1 hp1 hI1 hR => (Need_ok hR nm hnm d u).mono fun e w' ⟨he, hf⟩ => ⟨(), he, trivial, hf⟩) ?_
    intro _ _
    (refine gs ?_)
    refine gw ?_
    refine n_callR (Y := Option Addr × Nat) 4 (fun y => rgRes A.prg y.1 y.2 (S.RG.need nm d u)) (fun _ => .tup []) (fun _ => .tuple #[]) (fun _ => True) rfl rfl (fun _ => rfl) rfl rfl rfl (fun _ w1 hp1 hI1 hR => rNeed_ok hR (by omega) nm d u) ?_
    rintro ⟨o', c'⟩ _
    (refine gs ?_)
    refine gw ?_
    refine n_ret0 rfl rfl fun ids' w' hp hI' => ⟨⟨o', c', O.oV, O.cV⟩, rfl, trivial, ?_⟩
    rw [← (need_same S.G nm d u).1, ← (need_same S.G nm d u).2] at hI'
    exact pair_post (O' := ⟨o', c', O.oV, O.cV⟩) (S' := { S with G := S.G.need nm d u, RG := S.RG.need nm d u }) hI' rfl rfl hp
  rw [if_neg h1] at hS
  by_cases h2 : k = 2
  · rw [if_pos h2] at hS
    rw [hS]
    (repeat ((first | refine n_must rfl ?_ | refine n_chk (drawF_ok (by decide +kernel)) ?_ | refine n_same rfl ?_ | ((first | refine n_must ?_ ?_ | refine n_brT ?_ ?_); (focus (first | (simp [h2]; done) | (simp [h2]; omega) | (simp only [h2]; simp; done)))) | (refine n_brF ?_ ?_; (focus (first | (simp [h2]; done) | (simp [h2]; omega) | (simp only [h2]; simp; done)))) | refine n_must (by (with_reducible refine and_shape ?_) <;> kernel_rfl) ?_); (refine gs ?_)))
    refine n_callM (Y := Unit) (pairIds A) (pairMem A O S) _ (fun _ => pairMem A O (S.tick nm n)) (fun _ => .bool true) (fun _ => .bool true) (fun _ => True) rfl rfl (fun _ => rfl) rfl (List.prefix_refl _) (fun ids' hp => pair_sel hp) (pair_rw A O S) (fun _ _ => rfl) (fun _ w1 hp1 hI1 hR => (ticks_ok hR ok hK nm hnm).mono fun e w' ⟨he, hf⟩ => ⟨(), he, trivial, hf⟩) ?_
    intro _ _
    (refine gs ?_)
    refine gw ?_
    exact n_ret0 rfl rfl fun ids' w' hp hI' => ⟨O, rfl, trivial, pair_post (O' := O) (S' := S.tick nm n) hI' rfl rfl hp⟩
  rw [if_neg h2] at hS
  by_cases h3 : k = 3
  · rw [if_pos h3] at hS
    rw [hS]
    (repeat ((first | refine n_must rfl ?_ | refine n_chk (drawF_ok (by decide +kernel)) ?_ | refine n_same rfl ?_ | ((first | refine n_must ?_ ?_ | refine n_brT ?_ ?_); (focus (first | (simp [h1, h3]; done) | (simp [h1, h3]; omega) | (simp only [h1, h3]; simp; done)))) | (refine n_brF ?_ ?_; (focus (first | (simp [h1, h3]; done) | (simp [h1, h3]; omega) | (simp only [h1, h3]; simp; done)))) | refine n_must (by (with_reducible refine and_shape ?_) <;> kernel_rfl) ?_); (refine gs ?_)))
    refine n_both ?_ ?_
    · (refine gs ?_)
      refine n_updP 2 (.agg [.int .i64 (giveF S.l.d d), .int .i64 (giveF S.l.u u)]) (S.l.give d u).sv rfl rfl rfl rfl rfl rfl rfl (fun _ w1 hp1 hI1 => Give2_ok (hsf rfl rfl hI1).1 hpl (hsf rfl rfl hI1).2 (pV A.pg) S.l ok.l (hI1.blk_at hp1 2 rfl rfl rfl) d u) ?_
      (refine gs ?_)
      refine gg ?_
      refine n_updP 5 (.agg [.int .i64 (giveF S.l.d d), .int .i64 (giveF S.l.u u)]) (S.l.give d u).sv rfl rfl rfl rfl rfl rfl rfl (fun _ w1 hp1 hI1 => rGive2_ok (pV A.prg) S.l ok.l (hI1.blk_at hp1 5 rfl rfl rfl) d u) ?_
      (refine gs ?_)
      refine gw ?_
      refine n_sameP (.bool true) rfl rfl rfl (fun _ w1 hp1 hI1 => (same_ok (giveF S.l.d d, giveF S.l.u u) (giveF S.l.d d, giveF S.l.u u) w1).mono fun e w' ⟨h1, h2⟩ => ⟨by simpa using h1, h2⟩) ?_; (refine gs ?_)
      refine gw ?_
      refine n_sameP (.agg [.int .i64 (S.l.give d u).d, .int .i64 (S.l.give d u).u]) rfl rfl rfl (fun _ w1 hp1 hI1 => Rights_ok (S.l.give d u) (hI1.blk_at hp1 2 rfl rfl rfl)) ?_; (refine gs ?_)
      refine gw ?_
      refine n_sameP (.agg [.int .i64 (S.l.give d u).d, .int .i64 (S.l.give d u).u]) rfl rfl rfl (fun _ w1 hp1 hI1 => rRights_ok (S.l.give d u) (hI1.blk_at hp1 5 rfl rfl rfl)) ?_; (refine gs ?_)
      refine gw ?_
      refine n_sameP (.bool true) rfl rfl rfl (fun _ w1 hp1 hI1 => (same_ok ((S.l.give d u).d, (S.l.give d u).u) ((S.l.give d u).d, (S.l.give d u).u) w1).mono fun e w' ⟨h1, h2⟩ => ⟨by simpa using h1, h2⟩) ?_; (refine gs ?_)
      refine gw ?_
      exact n_ret0 rfl rfl fun ids' w' hp hI' => ⟨O, rfl, trivial, pair_post (O' := O) (S' := { S with l := S.l.give d u }) hI' rfl rfl hp⟩
    · (refine gs ?_)
      refine gg ?_
      refine n_updP 2 (.agg [.int .i64 (giveF S.l.d d), .int .i64 (giveF S.l.u u)]) (S.l.give d u).sv rfl rfl rfl rfl rfl rfl rfl (fun _ w1 hp1 hI1 => Give2_ok (hsf rfl rfl hI1).1 hpl (hsf rfl rfl hI1).2 (pV A.pg) S.l ok.l (hI1.blk_at hp1 2 rfl rfl rfl) d u) ?_
      (refine gs ?_)
      refine gg ?_
      refine n_updP 5 (.agg [.int .i64 (giveF S.l.d d), .int .i64 (giveF S.l.u u)]) (S.l.give d u).sv rfl rfl rfl rfl rfl rfl rfl (fun _ w1 hp1 hI1 => rGive2_ok (pV A.prg) S.l ok.l (hI1.blk_at hp1 5 rfl rfl rfl) d u) ?_
      (refine gs ?_)
      refine gw ?_
      refine n_sameP (.bool true) rfl rfl rfl (fun _ w1 hp1 hI1 => (same_ok (giveF S.l.d d, giveF S.l.u u) (giveF S.l.d d, giveF S.l.u u) w1).mono fun e w' ⟨h1, h2⟩ => ⟨by simpa using h1, h2⟩) ?_; (refine gs ?_)
      refine gw ?_
      refine n_sameP (.agg [.int .i64 (S.l.give d u).d, .int .i64 (S.l.give d u).u]) rfl rfl rfl (fun _ w1 hp1 hI1 => Rights_ok (S.l.give d u) (hI1.blk_at hp1 2 rfl rfl rfl)) ?_; (refine gs ?_)
      refine gw ?_
      refine n_sameP (.agg [.int .i64 (S.l.give d u).d, .int .i64 (S.l.give d u).u]) rfl rfl rfl (fun _ w1 hp1 hI1 => rRights_ok (S.l.give d u) (hI1.blk_at hp1 5 rfl rfl rfl)) ?_; (refine gs ?_)
      refine gw ?_
      refine n_sameP (.bool true) rfl rfl rfl (fun _ w1 hp1 hI1 => (same_ok ((S.l.give d u).d, (S.l.give d u).u) ((S.l.give d u).d, (S.l.give d u).u) w1).mono fun e w' ⟨h1, h2⟩ => ⟨by simpa using h1, h2⟩) ?_; (refine gs ?_)
      refine gw ?_
      exact n_ret0 rfl rfl fun ids' w' hp hI' => ⟨O, rfl, trivial, pair_post (O' := O) (S' := { S with l := S.l.give d u }) hI' rfl rfl hp⟩
  rw [if_neg h3] at hS
  by_cases h4 : k = 4
  · rw [if_pos h4] at hS
    rw [hS]
    have hl : S.G.lack nm = lackR S.RG.All nm := ok.g.lack nm
    (repeat ((first | refine n_must rfl ?_ | refine n_chk (drawF_ok (by decide +kernel)) ?_ | refine n_same rfl ?_ | ((first | refine n_must ?_ ?_ | refine n_brT ?_ ?_); (focus (first | (simp [h1, h4]; done) | (simp [h1, h4]; omega) | (simp only [h1, h4]; simp; done)))) | (refine n_brF ?_ ?_; (focus (first | (simp [h1, h4]; done) | (simp [h1, h4]; omega) | (simp only [h1, h4]; simp; done)))) | refine n_must (by (with_reducible refine and_shape ?_) <;> kernel_rfl) ?_); (refine gs ?_)))
    refine n_sameP (.agg [.int .i64 (lackR S.RG.All nm).1, .int .i64 (lackR S.RG.All nm).2]) rfl rfl rfl (fun _ w1 hp1 hI1 => hl ▸ Lacks_ok (hI1.res 1 rfl rfl) nm hnm) ?_; (refine gs ?_)
    refine gw ?_
    refine n_sameP (.agg [.int .i64 (lackR S.RG.All nm).1, .int .i64 (lackR S.RG.All nm).2]) rfl rfl rfl (fun _ w1 hp1 hI1 => rLacks_ok (hI1.res 4 rfl rfl) (by omega) nm) ?_; (refine gs ?_)
    refine gw ?_
    refine n_sameP (.bool true) rfl rfl rfl (fun _ w1 hp1 hI1 => (same_ok (lackR S.RG.All nm) (lackR S.RG.All nm) w1).mono fun e w' ⟨h1, h2⟩ => ⟨by simpa using h1, h2⟩) ?_; (refine gs ?_)
    refine gw ?_
    exact n_ret0 rfl rfl fun ids' w' hp hI' => ⟨O, rfl, trivial, pair_post (O' := O) (S' := S) hI' rfl rfl hp⟩
  rw [if_neg h4] at hS
  by_cases h5 : k = 5
  · rw [if_pos h5] at hS
    rw [hS]
    (repeat ((first | refine n_must rfl ?_ | refine n_chk (drawF_ok (by decide +kernel)) ?_ | refine n_same rfl ?_ | ((first | refine n_must ?_ ?_ | refine n_brT ?_ ?_); (focus (first | (simp [h1, h5]; done) | (simp [h1, h5]; omega) | (simp only [h1, h5]; simp; done)))) | (refine n_brF ?_ ?_; (focus (first | (simp [h1, h5]; done) | (simp [h1, h5]; omega) | (simp only [h1, h5]; simp; done)))) | refine n_must (by (with_reducible refine and_shape ?_) <;> kernel_rfl) ?_); (refine gs ?_)))
    refine n_updP 2 (.int .i64 (S.l.in_ d u).2.num) (S.l.in_ d u).1.sv rfl rfl rfl rfl rfl rfl rfl (fun _ w1 hp1 hI1 => In_ok (hsf rfl rfl hI1).1 hpl (hsf rfl rfl hI1).2 S.l ok.l (hI1.blk_at hp1 2 rfl rfl rfl) d u) ?_
    (refine gs ?_)
    refine gw ?_
    refine n_updP 5 (.int .i64 (S.l.in_ d u).2.num) (S.l.in_ d u).1.sv rfl rfl rfl rfl rfl rfl rfl (fun _ w1 hp1 hI1 => rIn_ok S.l ok.l (hI1.blk_at hp1 5 rfl rfl rfl) d u) ?_
    (refine gs ?_)
    refine gw ?_
    exact n_ret0 rfl rfl fun ids' w' hp hI' => ⟨O, ret_bool (by simp), trivial, pair_post (O' := O) (S' := { S with l := (S.l.in_ d u).1 }) hI' rfl rfl hp⟩
  rw [if_neg h5] at hS
  by_cases h6 : k = 6
  · rw [if_pos h6] at hS
    rw [hS]
    (repeat ((first | refine n_must rfl ?_ | refine n_chk (drawF_ok (by decide +kernel)) ?_ | refine n_same rfl ?_ | ((first | refine n_must ?_ ?_ | refine n_brT ?_ ?_); (focus (first | (simp [h1, h6]; done) | (simp [h1, h6]; omega) | (simp only [h1, h6]; simp; done)))) | (refine n_brF ?_ ?_; (focus (first | (simp [h1, h6]; done) | (simp [h1, h6]; omega) | (simp only [h1, h6]; simp; done)))) | refine n_must (by (with_reducible refine and_shape ?_) <;> kernel_rfl) ?_); (refine gs ?_)))
    refine n_updP 2 (.int .i64 (S.l.out d u).2.num) (S.l.out d u).1.sv rfl rfl rfl rfl rfl rfl rfl (fun _ w1 hp1 hI1 => Out_ok (hsf rfl rfl hI1).1 hpl (hsf rfl rfl hI1).2 S.l ok.l (hI1.blk_at hp1 2 rfl rfl rfl) d u) ?_
    (refine gs ?_)
    refine gw ?_
    refine n_updP 5 (.int .i64 (S.l.out d u).2.num) (S.l.out d u).1.sv rfl rfl rfl rfl rfl rfl rfl (fun _ w1 hp1 hI1 => rOut_ok S.l ok.l (hI1.blk_at hp1 5 rfl rfl rfl) d u) ?_
    (refine gs ?_)
    refine gw ?_
    exact n_ret0 rfl rfl fun ids' w' hp hI' => ⟨O, ret_bool (by simp), trivial, pair_post (O' := O) (S' := { S with l := (S.l.out d u).1 }) hI' rfl rfl hp⟩
  rw [if_neg h6] at hS
  by_cases h7 : k = 7
  · rw [if_pos h7] at hS
    rw [hS]
    (repeat ((first | refine n_must rfl ?_ | refine n_chk (drawF_ok (by decide +kernel)) ?_ | refine n_same rfl ?_ | ((first | refine n_must ?_ ?_ | refine n_brT ?_ ?_); (focus (first | (simp [h1, h7]; done) | (simp [h1, h7]; omega) | (simp only [h1, h7]; simp; done)))) | (refine n_brF ?_ ?_; (focus (first | (simp [h1, h7]; done) | (simp [h1, h7]; omega) | (simp only [h1, h7]; simp; done)))) | refine n_must (by (with_reducible refine and_shape ?_) <;> kernel_rfl) ?_); (refine gs ?_)))
    refine n_callM (Y := PO) (pairIds A) (pairMem A O S) _ (fun O' => pairMem A O' (S.tells n a nm d u)) (fun _ => .bool true) (fun _ => .bool true) (fun _ => True) rfl rfl (fun _ => rfl) rfl (List.prefix_refl _) (fun ids' hp => pair_sel hp) (pair_rw A O S) (fun _ _ => rfl) (fun _ w1 hp1 hI1 hR => tells_ok hR ok hK k who a nm d u ha hnm) ?_
    intro O' _
    (refine gs ?_)
    refine gw ?_
    exact n_ret0 rfl rfl fun ids' w' hp hI' => ⟨O', rfl, trivial, pair_post (O' := O') (S' := S.tells n a nm d u) hI' rfl rfl hp⟩
  rw [if_neg h7] at hS
  rw [hS]
  (repeat ((first | refine n_must rfl ?_ | refine n_chk (drawF_ok (by decide +kernel)) ?_ | refine n_same rfl ?_ | ((first | refine n_must ?_ ?_ | refine n_brT ?_ ?_); (focus (first | (simp [h1, h2, h3, h4, h5, h6, h7]; done) | (simp [h1, h2, h3, h4, h5, h6, h7]; omega) | (simp only [h1, h2, h3, h4, h5, h6, h7]; simp; done)))) | (refine n_brF ?_ ?_; (focus (first | (simp [h1, h2, h3, h4, h5, h6, h7]; done) | (simp [h1, h2, h3, h4, h5, h6, h7]; omega) | (simp only [h1, h2, h3, h4, h5, h6, h7]; simp; done)))) | refine n_must (by (with_reducible refine and_shape ?_) <;> kernel_rfl) ?_); (refine gs ?_)))
  exact n_ret0 rfl rfl fun ids' w' hp hI' => ⟨O, rfl, trivial, pair_post (O' := O) (S' := S) hI' rfl rfl hp⟩
end
end Go.Proofs.YtglafgpjgkphkaaGreatDoor
