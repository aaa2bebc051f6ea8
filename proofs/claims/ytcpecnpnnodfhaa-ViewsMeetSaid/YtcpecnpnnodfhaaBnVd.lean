/- Chapter 9's law: made, alive. Chapter 9's law: the book; a pair's calls, as calls on one part. -/
import Derived.Test.YtcpecnpnnodfhaaBnVc
import Derived.Test.YtcpecnpnnodfhaaVwG
import Derived.Test.YtcpecnpnnodfhaaBnVe
namespace Go.Proofs.Ytcpecnpnnodfhaa
section
set_option maxRecDepth 100000
set_option linter.unusedSimpArgs false
set_option linter.unusedVariables false
set_option maxHeartbeats 8000000
open Go.RowKit

theorem made_bad {me n : Int} (h : newErr me n ≠ 0) (w : World) : Calls Try.prog 22 #[.int .i64 me, .int .i64 n] w fun e w' => e = .returned (.tuple #[.pointer none, .bool true]) ∧ Frm [] w w' := by
  have hI := Inv.nil (P := Try.prog) (N := 44) (S := []) (os := []) w
  refine calls_sm (cx 44 [] [] w) (vals := [.int .i64 me, .int .i64 n]) mixed Try.func22 rfl rfl rfl hI rfl (st rfl ?_); conv => arg 3; whnf
  refine gw ?_
  refine n_sameP (.tup [.nilp, .int .i64 (newErr me n)]) rfl rfl rfl (fun _ w1 hp1 hI1 => vNew_bad h w1) ?_; (refine gs ?_)
  refine gw ?_
  refine n_sameP (.tup [.nilp, .int .i64 (newErr me n)]) rfl rfl rfl (fun _ w1 hp1 hI1 => rvNew_bad h w1) ?_; (refine gs ?_)
  refine gw ?_
  exact n_ret0 rfl rfl fun ids' w' hp hI' => ⟨rfl, hI'.frm⟩
def Pq.new (v mb nb q : Nat) (me : Int) (n : Nat) : Pq := ⟨v, mb, nb, ⟨me, [], List.replicate n 0⟩, q, (none, 0), ⟨me, n, []⟩, (none, 0, 0), (none, 0, 0)⟩
theorem pq_new_ok {v mb nb q : Nat} {me : Int} {n : Nat} (h : 0 ≤ me ∧ me < n) (hn : 2 ≤ n ∧ n ≤ 16) : (Pq.new v mb nb q me n).ok n 0 := ⟨VRel.new h, hn, by simp [Pq.new], by simp [Pq.new], by simp [Pq.new]⟩
theorem pq_den (bk : Nat) (P : Pq) : ∀ i b, nth (pqMem bk P) i = some b → resOf b = none → ∃ l, denL [] b.cells = some l := by
  intro i b hb hr
  match i, hb with
  | 0, hb => cases hb; exact ⟨_, rfl⟩
  | 1, hb => cases hb; cases hr
  | 2, hb => cases hb; cases hr
  | 3, hb => cases hb; cases hr
  | 4, hb => cases hb; cases hr
theorem made_good {me n : Int} (h : newErr me n = 0) (w : World) : Calls Try.prog 22 #[.int .i64 me, .int .i64 n] w fun e w' => ∃ y : Nat × Nat × Nat × Nat × Nat × Nat, e = .returned (.tuple #[pV y.1, .bool true]) ∧ True ∧ FreshR w w' (pqRes y.1 y.2.1 (Pq.new y.2.2.1 y.2.2.2.1 y.2.2.2.2.1 y.2.2.2.2.2 me n.toNat)) := by
  have hI := Inv.nil (P := Try.prog) (N := 44) (S := []) (os := []) w
  obtain ⟨h1, h2, h3, h4⟩ := newErr_0 h
  have hnn : ((n.toNat : Nat) : Int) = n := by omega
  refine calls_sm (cx 44 [] [] w) (vals := [.int .i64 me, .int .i64 n]) mixed Try.func22 rfl rfl rfl hI rfl (st rfl ?_); conv => arg 3; whnf
  refine gw ?_
  refine n_callN (fun y : Nat × Nat × Nat => viewsRes y.1 y.2.1 y.2.2 ⟨me, [], List.replicate n.toNat 0⟩) 84 (fun y => .tup [.raw (pV y.1), .int .i64 0]) (fun y => .tuple #[pV y.1, .int .i64 0]) (fun _ => True) rfl rfl rfl (fun _ => rfl) (fun w1 hI1 => vNew_good h w1) ?_
  rintro ⟨v, mb, nb⟩ _ _
  dsimp only
  (refine gs ?_)
  refine gw ?_
  refine n_callN (fun y : Nat => rvRes y none 0 ⟨me, n.toNat, []⟩) 113 (fun y => .tup [.raw (pV y), .int .i64 0]) (fun y => .tuple #[pV y, .int .i64 0]) (fun _ => True) rfl rfl rfl (fun _ => rfl) (fun w1 hI1 => by rw [hnn]; exact rvNew_good h w1) ?_
  intro q _ _
  (refine gs ?_)
  refine gw ?_
  refine n_ret rfl fun ids' w' hp hI' => ?_
  obtain ⟨bk, b, rfl⟩ := ext2 hp (by rw [hI'.len]; rfl)
  have h1 := hI'.addR (Frm.refl [] w') (dgRes (none, 0, 0)) 49 true (fun j u hu => by simp [dgL] at hu) (fun x hx => by cases hx) (fun x hx => by cases hx)
  have h2 := h1.addR (Frm.refl [] w') (knRes (none, 0, 0)) 47 true (fun j u hu => by simp [knL] at hu) (fun x hx => by cases hx) (fun x hx => by cases hx)
  refine ⟨_, rfl, (b, bk, v, mb, nb, q), rfl, trivial, ?_⟩
  exact fresh_shut (ids := [b, 0, 0, 0, 0]) (mem := pqMem bk (Pq.new v mb nb q me n.toNat)) h2 rfl [3, 0, 1, 4, 5] (.blk rfl rfl rfl rfl (.res rfl (.res rfl (.res rfl (.res rfl .nil))))) (by decide)

/-! ### alive -/
abbrev kNm : ByteArray := { data := #[107] }
abbrev vwA : Vw := ⟨kNm, 10, 0, 1, 5, 4, 1⟩
abbrev vwB : Vw := ⟨kNm, 10, 0, 1, 2, 0, 0⟩
abbrev st0 (me : Int) : Vs := ⟨me, [], List.replicate 3 0⟩
theorem tellA : ((st0 0).tell vwA).2 = 0 := by decide +kernel
theorem tellB : ((st0 1).tell vwB).2 = 0 := by decide +kernel
theorem mineA : ((st0 0).tell vwA).1.me = 0 ∧ mineL 0 ((st0 0).tell vwA).1.V = [vwA] ∧ ((st0 0).tell vwA).1.V.length = 1 := by decide +kernel
theorem takeB : (((st0 1).tell vwB).1.take 0 [vwA]).2 = (1, 0) := by decide +kernel
theorem lenB : ((st0 1).tell vwB).1.ns.length = 3 ∧ cnt ((st0 1).tell vwB).1.ns 0 = 0 := by decide +kernel
theorem aboutB : aboutD (((st0 1).tell vwB).1.take 0 [vwA]).1.V kNm = 7 ∧ aboutN (((st0 1).tell vwB).1.take 0 [vwA]).1.V kNm = 2 := by decide +kernel
theorem alive_ok (w : World) : Calls Try.prog 11 #[] w fun e w' => e = .returned (.bool true) ∧ Frm [] w w' := by
  have hI := Inv.nil (P := Try.prog) (N := 87) (S := []) (os := [(7, .of [(0, []), (1, []), (2, []), (3, []), (4, []), (5, []), (6, []), (7, []), (8, [3]), (9, []), (10, []), (11, []), (12, []), (13, []), (14, [])])]) w
  refine calls_sm (cx 87 [(7, .of [(0, []), (1, []), (2, []), (3, []), (4, []), (5, []), (6, []), (7, []), (8, [3]), (9, []), (10, []), (11, []), (12, []), (13, []), (14, [])])] [] w) (vals := []) mixed Try.func11 rfl rfl rfl hI rfl (st rfl ?_); conv => arg 3; whnf
  refine gw ?_
  refine n_callNM (fun y : Nat × Nat × Nat × Nat × Nat × Nat => [y.1, 0, 0, 0, 0]) (fun y => pqMem y.2.1 (Pq.new y.2.2.1 y.2.2.2.1 y.2.2.2.2.1 y.2.2.2.2.2 0 3)) (fun y => .tup [.ptr 0 0, .bool true]) (fun y => .tuple #[pV y.1, .bool true]) (fun _ => True) rfl rfl rfl (fun _ => rfl) (fun y => pq_den _ _) (fun w1 _ => made_good (me := 0) (n := 3) rfl w1) ?_
  rintro ⟨b0, k0, v, mb, nb, q⟩ _ _
  dsimp only
  (refine gs ?_)
  refine gw ?_
  refine n_callNM (fun y : Nat × Nat × Nat × Nat × Nat × Nat => [y.1, 0, 0, 0, 0]) (fun y => pqMem y.2.1 (Pq.new y.2.2.1 y.2.2.2.1 y.2.2.2.2.1 y.2.2.2.2.2 1 3)) (fun y => .tup [.ptr 5 0, .bool true]) (fun y => .tuple #[pV y.1, .bool true]) (fun _ => True) rfl rfl rfl (fun _ => rfl) (fun y => pq_den _ _) (fun w1 _ => made_good (me := 1) (n := 3) rfl w1) ?_
  rintro ⟨b1, k1, v1, mb1, nb1, q1⟩ _ _
  dsimp only
  (refine gs ?_)
  refine gw ?_
  refine n_callR (Y := Unit) 1 (fun _ => viewsRes v mb nb ((st0 0).tell vwA).1) (fun _ => .int .i64 0) (fun _ => .int .i64 0) (fun _ => True) rfl rfl (fun _ => rfl) rfl rfl rfl (fun _ w1 _ hI1 hR1 =>
    (Tell_ok (s := st0 0) hR1 (by decide) (by decide) (by decide) kNm 10 0 5 4 1 (by decide)).mono fun e w' ⟨he, hp⟩ => ⟨(), by rw [he, tellA], trivial, hp⟩) ?_
  intro _ _
  (refine gs ?_)
  refine gw ?_
  refine n_callR (Y := Unit) 6 (fun _ => viewsRes v1 mb1 nb1 ((st0 1).tell vwB).1) (fun _ => .int .i64 0) (fun _ => .int .i64 0) (fun _ => True) rfl rfl (fun _ => rfl) rfl rfl rfl (fun _ w1 _ hI1 hR1 =>
    (Tell_ok (s := st0 1) hR1 (by decide) (by decide) (by decide) kNm 10 0 2 0 0 (by decide)).mono fun e w' ⟨he, hp⟩ => ⟨(), by rw [he, tellB], trivial, hp⟩) ?_
  intro _ _
  (refine gs ?_)
  refine gw ?_
  obtain ⟨a1, a2, a3⟩ := mineA
  refine n_callN (fun y : Option Addr × Nat => vRow y.1 1 y.2 (vws [vwA])) 49 (fun y => .raw (.slice y.1 1 y.2)) (fun y => .slice y.1 1 y.2) (fun _ => True) rfl rfl rfl (fun _ => rfl) (fun w1 hI1 => (Digest_ok (hI1.res 1 rfl rfl) (by omega) (by rw [a1, a2]; simp)).mono fun e w' ⟨y, he, ⟨h1, _⟩, hf⟩ => by
    rw [a1, a2] at h1
    have h2 := List.perm_singleton.1 h1
    rw [h2] at he hf
    exact ⟨y.1, he, trivial, hf⟩) ?_
  rintro ⟨o, cc⟩ _ _
  dsimp only
  (refine gs ?_)
  refine gw ?_
  obtain ⟨b1', b2'⟩ := lenB
  refine n_callR (Y := Unit) 6 (fun _ => viewsRes v1 mb1 nb1 (((st0 1).tell vwB).1.take 0 [vwA]).1) (fun _ => .tup [.int .i64 1, .int .i64 0]) (fun _ => .tuple #[.int .i64 1, .int .i64 0]) (fun _ => True) rfl rfl (fun _ => rfl) rfl rfl rfl (fun _ w1 _ hI1 hR1 =>
    (Take_n (L := [vwA]) hR1 (by omega) 0 (by decide) (by omega) rfl cc (rd_of_row (hI1.res 10 rfl rfl)) (fun x hx hx2 => hI1.res_res 6 10 (by decide) rfl rfl rfl rfl x hx (rd_inR hx2))).mono fun e w' ⟨he, hp⟩ => ⟨(), by rw [he, takeB], trivial, hp⟩) ?_
  intro _ _
  (refine gs ?_)
  refine gw ?_
  obtain ⟨c1, c2⟩ := aboutB
  refine n_sameP (.tup [.int .i64 7, .bool true]) rfl rfl rfl (fun _ w1 hp1 hI1 => (About_ok (hI1.res 6 rfl rfl) kNm (by decide)).mono fun e w' ⟨he, hf⟩ => ⟨by rw [he, c1, c2]; rfl, hf⟩) ?_; (refine gs ?_)
  refine gw ?_
  exact n_ret0 rfl rfl fun ids' w' hp hI' => ⟨rfl, hI'.frm⟩
end
section
set_option maxRecDepth 100000
set_option linter.unusedSimpArgs false
set_option linter.unusedVariables false
set_option maxHeartbeats 8000000
open Go.RowKit

/-! ### The book -/
/-- An answer of Digest, the document's beside it. -/
structure De where
  l : Option Addr × Nat
  w : Option Addr × Nat
  L : List Vw
structure Kn where
  l : Option Addr × Nat
  w : Option Addr × Nat
  L : List (Int × Int)
abbrev rRow (o : Option Addr) (n cap : Nat) (xs : List Value) : Res := rowRes 47 2 o n cap xs
abbrev rts (L : List (Int × Int)) : List Value := L.flatMap rtL
abbrev De.c (e : De) : List Value := [.slice e.l.1 e.L.length e.l.2, .slice e.w.1 e.L.length e.w.2, .slice none 0 0]
abbrev Kn.c (e : Kn) : List Value := [.slice e.l.1 e.L.length e.l.2, .slice e.w.1 e.L.length e.w.2, .slice none 0 0]
theorem de_len (e : De) : e.c.length = 3 := rfl
theorem kn_len (e : Kn) : e.c.length = 3 := rfl
abbrev De.res (e : De) : Res := (vRow e.l.1 e.L.length e.l.2 (vws e.L)).both (vRow e.w.1 e.L.length e.w.2 (vws e.L))
abbrev Kn.res (e : Kn) : Res := (rRow e.l.1 e.L.length e.l.2 (rts e.L)).both (rRow e.w.1 e.L.length e.w.2 (rts e.L))
structure Bk where
  dgo : Option Addr
  dgc : Nat
  D : List De
  kno : Option Addr
  knc : Nat
  K : List Kn
abbrev bkMem (B : Bk) : Mem := [⟨69, [.raw (.slice B.dgo B.D.length B.dgc), .raw (.slice B.kno B.K.length B.knc)], true⟩, ⟨100, [.res (rowRes 100 3 B.dgo B.D.length B.dgc (B.D.flatMap De.c))], true⟩, ⟨103, [.res (rowRes 103 3 B.kno B.K.length B.knc (B.K.flatMap Kn.c))], true⟩, ⟨49, [.res (allRes (B.D.map De.res))], true⟩, ⟨47, [.res (allRes (B.K.map Kn.res))], true⟩]
abbrev bkRes (b : Nat) (B : Bk) : Res := memRes [b, 0, 0, 0, 0] (bkMem B)
structure Bk.ok (B : Bk) (N : Nat) : Prop where
  d : B.D.length ≤ N
  k : B.K.length ≤ N
  ds : ∀ e ∈ B.D, e.L.length ≤ 100000
  ks : ∀ e ∈ B.K, e.L.length ≤ 16
theorem Bk.ok.mono {B : Bk} {n m : Nat} (h : B.ok n) (hm : n ≤ m) : B.ok m := ⟨by have := h.d; omega, by have := h.k; omega, h.ds, h.ks⟩
theorem bk0_ok : (⟨none, 0, [], none, 0, []⟩ : Bk).ok 0 := ⟨by simp, by simp, by simp, by simp⟩

/-! ### Calls on one part -/
theorem aggPv : aggB Try.prog 35 = some false := by kernel_rfl
theorem aggPr : aggB Try.prog 70 = some false := by kernel_rfl
theorem pq_cell {b bk : Nat} {P : Pq} {w : World} (h : (pqRes b bk P).R w) {j : Nat} {u : Value} (hu : [pV P.v, pV P.q, .slice P.dg.1 P.dg.2.1 P.dg.2.2, .slice P.kn.1 P.kn.2.1 P.kn.2.2, pV bk][j]? = some u) {a : Addr} (ha : a = (⟨b, 0, none⟩ : Addr).add j) : w.cell? a = some u :=
  blk_at (memRes_blk h 0 rfl rfl rfl) hu ha
def Pq.tell (P : Pq) (x : Vw) : Pq := { P with s := (P.s.tell x).1 }
theorem tell_pq {b bk n N : Nat} {P : Pq} {w : World} (hP : P.ok n N) (hN : N ≤ 400) (hR : (pqRes b bk P).R w) (nm : ByteArray) (cap rc d u h : Int) (hnm : nm.size ≤ maxLen) :
    Calls Try.prog 25 #[pV P.v, .string nm, .int .i64 cap, .int .i64 rc, .agg #[.int .i64 d, .int .i64 u], .int .i64 h] w fun e w' => e = .returned (.int .i64 (P.s.tell ⟨nm, cap, rc, 1, d, u, h⟩).2) ∧ Post (pqRes b bk P) (pqRes b bk (P.tell ⟨nm, cap, rc, 1, d, u, h⟩)) w w' := by
  obtain ⟨hrel, hn, hall, _, _⟩ := hP
  have h1 := hrel.mein
  have h2 := hrel.me
  have h3 := hrel.len
  have h4 := cnt_any hrel hn.1 P.s.me
  exact (Tell_ok (memRes_res hR 1 rfl rfl) (by omega) (by omega) (by omega) nm cap rc d u h hnm).mono fun e w' ⟨he, hp⟩ => ⟨he, post_in Try.prog hR (i := 1) rfl rfl rfl hp⟩
def Pq.rtell (P : Pq) (x : Vw) (oc : Option Addr × Nat) : Pq := { P with r := (P.r.tell x).1, oc := oc }
theorem rtell_pq {b bk : Nat} {P : Pq} {w : World} (hl : P.r.All.length ≤ 100000) (hR : (pqRes b bk P).R w) (nm : ByteArray) (cap rc d u h : Int) :
    Calls Try.prog 35 #[pV P.q, .string nm, .int .i64 cap, .int .i64 rc, .agg #[.int .i64 d, .int .i64 u], .int .i64 h] w fun e w' => ∃ y : Option Addr × Nat, e = .returned (.int .i64 (P.r.tell ⟨nm, cap, rc, 1, d, u, h⟩).2) ∧ True ∧ Post (pqRes b bk P) (pqRes b bk (P.rtell ⟨nm, cap, rc, 1, d, u, h⟩ y)) w w' :=
  (rTell_ok (memRes_res hR 2 rfl rfl) hl nm cap rc d u h).mono fun e w' ⟨y, he, _, hp⟩ => ⟨y, he, trivial, post_in Try.prog hR (i := 2) rfl rfl rfl hp⟩
theorem rtell_len (r : Rv) (x : Vw) : (r.tell x).1.All.length ≤ r.All.length + 1 := by
  unfold Rv.tell
  split
  · dsimp only; omega
  split
  · dsimp only; omega
  split
  · dsimp only; omega
  · simp
theorem told_ok {P : Pq} {n N : Nat} (hP : P.ok n N) (hN : N ≤ 400) (nm : ByteArray) (cap rc d u h : Int) (y : Option Addr × Nat) :
    (P.s.tell ⟨nm, cap, rc, 1, d, u, h⟩).2 = (P.r.tell ⟨nm, cap, rc, 1, d, u, h⟩).2 ∧ ((P.tell ⟨nm, cap, rc, 1, d, u, h⟩).rtell ⟨nm, cap, rc, 1, d, u, h⟩ y).ok n (N + 1) := by
  obtain ⟨hrel, hn, hall, hdg, hkn⟩ := hP
  obtain ⟨h1, h2⟩ := tell_like hrel (by omega) nm cap rc d u h
  have h3 := rtell_len P.r ⟨nm, cap, rc, 1, d, u, h⟩
  exact ⟨h1, h2, hn, by show (P.r.tell _).1.All.length ≤ _; omega, hdg, hkn⟩
end
end Go.Proofs.Ytcpecnpnnodfhaa
