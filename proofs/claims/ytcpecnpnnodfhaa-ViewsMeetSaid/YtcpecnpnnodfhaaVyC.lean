/- Chapter 9's law without the document's answer: a replica says what it has (step, kind 0). -/
import Derived.Test.YtcpecnpnnodfhaaBnVh
import Derived.Test.YtcpecnpnnodfhaaBnVd
set_option maxRecDepth 100000
set_option linter.unusedSimpArgs false
set_option linter.unusedVariables false
set_option maxHeartbeats 8000000
namespace Go.Proofs.Ytcpecnpnnodfhaa
open Go.RowKit

structure Sy where
  k : Int
  who : Int
  a : Int
  nm : Int
  d : Int
  u : Int
  h : Int
abbrev Sy.l (x : Sy) : List Value := [.int .i64 x.k, .int .i64 x.who, .int .i64 x.a, .int .i64 x.nm, .int .i64 x.d, .int .i64 x.u, .int .i64 x.h]
abbrev Sy.sv (x : Sy) : List SV := [.int .i64 x.k, .int .i64 x.who, .int .i64 x.a, .int .i64 x.nm, .int .i64 x.d, .int .i64 x.u, .int .i64 x.h]
abbrev Sy.val (x : Sy) : Value := .agg #[.int .i64 x.k, .int .i64 x.who, .int .i64 x.a, .int .i64 x.nm, .int .i64 x.d, .int .i64 x.u, .int .i64 x.h]
theorem sy_len (x : Sy) : x.l.length = 7 := rfl
structure Sy.good (x : Sy) : Prop where
  k : i64 x.k
  who : i64 x.who
  a : i64 x.a
  nm : i64 x.nm
  d : i64 x.d
  u : i64 x.u
  h : i64 x.h
theorem aggVp : aggB Try.prog 36 = some false := by kernel_rfl
theorem add_mk2 (n o k : Nat) : (⟨n, o, none⟩ : Addr).add k = ⟨n, o + k, none⟩ := by unfold Addr.add; split <;> simp_all
theorem aggVws9 : aggB Try.prog 34 = some false := by kernel_rfl
theorem sizeVws9 : sizeB Try.prog 34 = some 1 := by kernel_rfl
/-- Replica w says x. -/
def Rp.say (x : Rp) (k : Nat) (d u h : Int) : Rp := { x with s := (x.s.tell (xK k d u h 1)).1, r := sayF x.r k d u h }
/-- A call of within in a walk: its argument is read off the goal. -/
theorem n_within {N : Nat} {os : List (Nat × Odr)} {S : List Nat} {w0 : World} {Q : SExit → Fr → Mem → List Nat → World → Prop} {ids : List Nat} {fr : Fr} {mem : Mem} {todo : List Task} {x lo hi : Int} {dst : Option Nat} (rr : Int) (hd : dstOk (cx N os S w0) dst = true) (he : withinF x lo hi = rr) (hx : i64 x) (hlo : 0 ≤ lo) (hle : lo ≤ hi) (hhi : hi ≤ 4611686018427387904)
    (hk : satS (cx N os S w0) Q ⟨putF dst (.int .i64 rr) fr, mem, todo⟩ ids) : satN (cx N os S w0) Q (.call 12 [.int .i64 x, .int .i64 lo, .int .i64 hi] dst ⟨fr, mem, todo⟩) ids :=
  n_sameP (vs := [.int .i64 x, .int .i64 lo, .int .i64 hi]) (v := .int .i64 rr) (.int .i64 rr) hd rfl rfl (fun _ w1 _ _ => by rw [← he]; exact within_ok x lo hi hx hlo hle hhi w1) hk
theorem step0_ok {t n N : Nat} {T : Tk} {y : Sy} {w : World} (hT : T.ok n N) (hN : N ≤ 1000) (hy : y.good) (hk : withinF y.k 0 2 = 0) (hR : (tkRes t T).R w) :
    Calls Try.prog 14 #[pV t, y.val] w fun e w' => ∃ (x : Rp) (S' : Nat → Option Addr × Nat), e = .returned (.bool true) ∧ T.X[(withinF y.who 0 ((n : Int) - 1)).toNat]? = some x ∧
      Post (tkRes t T) (tkRes t { T with X := T.X.set (withinF y.who 0 ((n : Int) - 1)).toNat (x.say (withinF y.nm 0 3).toNat (withinF y.d 0 30) (withinF y.u 0 30) (withinF y.h 0 30)), S := S' }) w w' := by
  obtain ⟨hlen, hn, hrel⟩ := hT
  obtain ⟨g1, g2, g3, g4, g5, g6, g7⟩ := hy
  have hI : Inv (cx 197 [(6, .then [(1, []), (3, []), (4, []), (6, []), (7, []), (10, []), (11, [])] (.fork 0 [11, 7, 4] (.then [(2, [])] (.fork 5 [11, 7] (.then [] (.fork 8 [11] (.then [(9, [])] (.fork 12 [] (.of [(13, []), (14, []), (15, [])]) (.cons 14 [11] (.of [(12, []), (13, []), (15, [])])))) (.cons 14 [11, 7] (.of [(8, [11]), (9, []), (12, []), (13, []), (15, [])])))) (.cons 14 [11, 7, 4] (.of [(5, [11, 7]), (8, [11]), (9, []), (12, []), (13, []), (15, [])])))) (.cons 14 [11, 7, 4] (.of [(0, [11, 7, 4]), (2, []), (5, [11, 7]), (8, [11]), (9, []), (12, []), (13, []), (15, [])])))), (16, .of [(0, []), (1, []), (2, []), (3, []), (4, []), (7, []), (8, []), (9, []), (5, []), (6, []), (10, []), (11, [])]), (32, .then [(0, []), (1, []), (2, []), (3, []), (4, []), (5, []), (6, []), (7, []), (8, []), (9, []), (10, []), (11, [])] (.fork 12 [3] (.of [(13, []), (14, []), (15, [14, 3]), (16, [])]) (.cons 15 [9, 5, 3] (.of [(12, [3]), (13, []), (14, []), (16, [])]))))] (tkRes t T).fp w) w [0, 0, 0, 0, 0, 0] (tkMem t T) := memRes_open hR fun x hx => hx
  have bw := within_le (x := y.who) (show (0 : Int) ≤ (n : Int) - 1 by omega)
  have bk := within_le (x := y.nm) (show (0 : Int) ≤ 3 by omega)
  have bd := within_le (x := y.d) (show (0 : Int) ≤ 30 by omega)
  have bu := within_le (x := y.u) (show (0 : Int) ≤ 30 by omega)
  have bh := within_le (x := y.h) (show (0 : Int) ≤ 30 by omega)
  obtain ⟨wi, hwi⟩ := Int.eq_ofNat_of_zero_le bw.1
  obtain ⟨ki, hki⟩ := Int.eq_ofNat_of_zero_le bk.1
  generalize hd : withinF y.d 0 30 = d at bd
  generalize hu : withinF y.u 0 30 = u at bu
  generalize hh : withinF y.h 0 30 = h at bh
  rw [hwi] at bw
  rw [hki] at bk
  have hnn : IntKind.i64.wrap ((T.X.length : Int) - 1) = (n : Int) - 1 := by rw [hlen]; exact w64 (by omega) (by omega)
  have hgv : ∃ g, T.vo = some ⟨g, 0, none⟩ := rowRes_some' (memRes_res hR 1 rfl rfl) (by omega)
  obtain ⟨gv, hgv⟩ := hgv
  obtain ⟨itt, hitt, hpt⟩ := Option.map_eq_some_iff.1 infoVw
  simp only [Prod.mk.injEq] at hpt
  refine calls_sm (cx 197 [(6, .then [(1, []), (3, []), (4, []), (6, []), (7, []), (10, []), (11, [])] (.fork 0 [11, 7, 4] (.then [(2, [])] (.fork 5 [11, 7] (.then [] (.fork 8 [11] (.then [(9, [])] (.fork 12 [] (.of [(13, []), (14, []), (15, [])]) (.cons 14 [11] (.of [(12, []), (13, []), (15, [])])))) (.cons 14 [11, 7] (.of [(8, [11]), (9, []), (12, []), (13, []), (15, [])])))) (.cons 14 [11, 7, 4] (.of [(5, [11, 7]), (8, [11]), (9, []), (12, []), (13, []), (15, [])])))) (.cons 14 [11, 7, 4] (.of [(0, [11, 7, 4]), (2, []), (5, [11, 7]), (8, [11]), (9, []), (12, []), (13, []), (15, [])])))), (16, .of [(0, []), (1, []), (2, []), (3, []), (4, []), (7, []), (8, []), (9, []), (5, []), (6, []), (10, []), (11, [])]), (32, .then [(0, []), (1, []), (2, []), (3, []), (4, []), (5, []), (6, []), (7, []), (8, []), (9, []), (10, []), (11, [])] (.fork 12 [3] (.of [(13, []), (14, []), (15, [14, 3]), (16, [])]) (.cons 15 [9, 5, 3] (.of [(12, [3]), (13, []), (14, []), (16, [])]))))] (tkRes t T).fp w) (vals := [.raw (pV t), .agg y.sv]) mixed Try.func14 rfl rfl rfl hI rfl (st rfl ?_); conv => arg 3; whnf
  refine gw ?_
  (refine n_ldA (.raw (.slice T.vo T.X.length T.vc)) rfl (by first | exact trivial | rfl) rfl (fun _ w1 _ hI1 => load_cell aggVp (tk_v (hI1.res 0 rfl rfl) rfl)) ?_; (refine gs ?_))
  refine gw ?_
  refine n_sameP (.int .i64 (wi : Nat)) rfl rfl rfl (fun _ w1 hp1 hI1 => by rw [hnn, ← hwi]; exact within_ok y.who 0 _ g2 (by omega) (by omega) (by omega) w1) ?_; (refine gs ?_)
  refine gw ?_
  refine n_sameP (.int .i64 0) rfl rfl rfl (fun _ w1 hp1 hI1 => (by have h := within_ok y.k 0 2 g1 (by omega) (by omega) (by omega) w1; rw [hk] at h; exact h)) ?_; (refine gs ?_)
  refine gw ?_
  refine n_sameP (.int .i64 (ki : Nat)) rfl rfl rfl (fun _ w1 hp1 hI1 => (by have h := within_ok y.nm 0 3 g4 (by omega) (by omega) (by omega) w1; rw [hki] at h; exact h)) ?_; (refine gs ?_)
  refine gw ?_
  have hk4 : ki < 4 := by omega
  have hgd : (#[Value.string (nmK 0), Value.string (nmK 1), Value.string (nmK 2), Value.string (nmK 3)] : Array Value).getD ((ki : Int).toNat * 1) Go.undef = .string (nmK ki) := by
    have hk' : ki = 0 ∨ ki = 1 ∨ ki = 2 ∨ ki = 3 := by omega
    rcases hk' with rfl | rfl | rfl | rfl <;> rfl
  repeat' (first | (refine n_must (by simp; omega) ?_; (refine gs ?_)) | (refine n_chk (drawF_ok (by decide +kernel)) ?_; (refine gs ?_)) | (refine n_same rfl ?_; (refine gs ?_)) | (refine n_both ?_ ?_ <;> (refine gs ?_)) | (refine n_within _ rfl (by first | exact hd | exact hu | exact hh) (by first | exact g5 | exact g6 | exact g7) (by omega) (by omega) (by omega) ?_; (refine gs ?_)) | (refine n_sameP (.raw (.agg #[.string (nmK 0), .string (nmK 1), .string (nmK 2), .string (nmK 3)])) rfl rfl rfl (fun _ w1 _ _ => names_n w1) ?_; (refine gs ?_)) | (rw [hgd]; conv => arg 3; whnf))
  all_goals as_aux_lemma =>
    have hxw : wi < T.X.length := by omega
    have hx : T.X[wi]? = some T.X[wi] := List.getElem?_eq_getElem hxw
    generalize T.X[wi] = x at hx
    obtain ⟨hv, hsp, hme, hal⟩ := hrel wi x hx
    have hAx : (T.X.map Rp.res)[wi]? = some x.res := by rw [List.getElem?_map, hx]; rfl
    have hAl : wi < (T.X.map Rp.res).length := by rw [List.length_map]; exact hxw
    refine gw ?_
    (refine n_ldA (.raw (.slice (some ⟨gv, 0, none⟩) T.X.length T.vc)) rfl (by first | exact trivial | rfl) rfl (fun _ w1 _ hI1 => (by rw [← hgv]; exact load_cell aggVp (tk_v (hI1.res 0 rfl rfl) rfl))) ?_; (refine gs ?_))
    refine gw ?_
    (refine n_ldA (.raw (pV x.v)) rfl (by first | exact trivial | rfl) rfl (fun _ w1 _ hI1 => load_cell aggPv (rowRes_cell (hgv ▸ hI1.res 1 rfl rfl) (by rw [Nat.mul_one, List.getElem?_map, Int.toNat_natCast, hx]; rfl))) ?_; (refine gs ?_))
    refine gw ?_
    have hj32 : wi * 4 + ki < 32 := by omega
    have hown : hadL T.X (wi * 4 + ki) = ownL x.r.All x.r.me (nmK ki) := by
      unfold hadL
      rw [show (wi * 4 + ki) / 4 = wi by omega, show (wi * 4 + ki) % 4 = ki by omega, hx]
    have hsl : T.sl (wi * 4 + ki) = .slice (T.S (wi * 4 + ki)).1 (ownL x.r.All x.r.me (nmK ki)).length (T.S (wi * 4 + ki)).2 := by unfold Tk.sl; rw [hown]
    have hrw9 : T.rows[wi * 4 + ki]? = some (vRow (T.S (wi * 4 + ki)).1 (ownL x.r.All x.r.me (nmK ki)).length (T.S (wi * 4 + ki)).2 (vws (ownL x.r.All x.r.me (nmK ki)))) := by
      rw [List.getElem?_map, List.getElem?_range hj32]
      simp only [Option.map_some, Tk.row, hown]
    have hol := ownL_le x.r.All x.r.me (nmK ki)
    have hsm : 0 < (ownL x.r.All x.r.me (nmK ki)).length → ∃ g, (T.S (wi * 4 + ki)).1 = some ⟨g, 0, none⟩ := fun h0 => rowRes_some' (all_out (memRes_res hR 3 rfl rfl) hrw9).1.2.1 h0
    generalize hso : (T.S (wi * 4 + ki)).1 = so at hsl hrw9 hsm
    generalize hsc : (T.S (wi * 4 + ki)).2 = sc at hsl hrw9 hsm
    generalize hO : ownL x.r.All x.r.me (nmK ki) = O at hsl hrw9 hown hol hsm
    refine n_callE fun ids9 hp9 hl9 => ?_
    obtain ⟨tl, rfl⟩ := hp9
    obtain ⟨a1, b1, rfl⟩ : ∃ a b, tl = [a, b] := by
      match tl, hl9 with
      | [a, b], _ => exact ⟨a, b, rfl⟩
    clear hl9
    refine n_callX [0, 0] _ rfl (fun w1 hI1 => (((hI1.lessR 2 rfl rfl rfl (fun h => all_out h hAx)).part2 2 rfl rfl 84).lessR 3 rfl rfl rfl (fun h => all_out h hrw9)).part2 3 rfl rfl 49) ?_
    refine n_callR (Y := Unit) 8 (fun _ => viewsRes x.v x.mb x.nb (x.s.tell (xK ki d u h 1)).1) (fun _ => .int .i64 0) (fun _ => .int .i64 0) (fun _ => True) rfl rfl (fun _ => rfl) rfl rfl rfl (fun _ w1 _ hI1 hR1 => ?_) ?_
    · have hmein := hv.mein
      have hcn := hv.cnt x.r.me hv.mein.1 hv.mein.2
      have ht := (tell_like hv (by omega) (nmK ki) 100 0 d u h).1
      have h2 := congrArg Prod.snd (tell_say hsp (by omega) hk4 bd bu bh)
      refine (Tell_ok hR1 ?_ ?_ ?_ (nmK ki) 100 0 d u h ?_).mono fun e w' ⟨he, hf⟩ => ⟨(), ?_, trivial, hf⟩
      · rw [hv.me, hv.len]; exact hv.mein
      · rw [hv.len]; omega
      · have h4 := hsp.names x.r.me
        rw [hv.me]; omega
      · have hk' : ki = 0 ∨ ki = 1 ∨ ki = 2 ∨ ki = 3 := by omega
        rcases hk' with rfl | rfl | rfl | rfl <;> decide
      · rw [he, ht]; exact congrArg (fun z => Ending.returned (.int .i64 z)) h2
    intro _ _
    (refine gs ?_)
    refine gw ?_
    (refine n_ldA (.raw (.slice so O.length sc)) rfl (by first | exact trivial | rfl) rfl (fun _ w1 _ hI1 => (by rw [← hsl]; exact load_cell aggVws9 (tk_had (hI1.res 0 rfl rfl) hj32 (by rw [Int.toNat_natCast, Int.toNat_natCast, add_mk2, add_mk2, add_mk2]; congr 1; show 0 + 1 + wi * 4 + ki * 1 = _; omega)))) ?_; (refine gs ?_))
    refine gw ?_
    have e2 : IntKind.i64.wrap ((O.length : Int) + 1) = (O.length : Int) + 1 := w64 (by omega) (by omega)
    refine n_br (fun hb => ?_) (fun hb => ?_)
    · have hb0 : 0 < O.length := by simpa using hb
      obtain ⟨go, rfl⟩ := hsm hb0
      have hz : O[O.length - 1]? = some O[O.length - 1] := List.getElem?_eq_getElem _
      generalize O[O.length - 1] = z at hz
      have e1 : IntKind.i64.wrap ((O.length : Int) - 1) = ((O.length - 1 : Nat) : Int) := by rw [w64 (by omega) (by omega)]; omega
      (refine gs ?_)
      (repeat ((first | refine n_must rfl ?_ | refine n_chk (drawF_ok (by decide +kernel)) ?_ | refine n_same rfl ?_ | ((first | refine n_must ?_ ?_ | refine n_brT ?_ ?_); (focus (first | (simp [e1]; done) | (simp [e1]; omega) | (simp only [e1]; simp; done)))) | (refine n_brF ?_ ?_; (focus (first | (simp [e1]; done) | (simp [e1]; omega) | (simp only [e1]; simp; done)))) | refine n_must (by (with_reducible refine and_shape ?_) <;> kernel_rfl) ?_); (refine gs ?_)))
      (refine n_ldA (.agg z.sv) rfl (by first | exact trivial | rfl) rfl (fun _ w1 _ hI1 => load_row (l := z.l) aggView sizeView (fun j u hu => row_at vw_len (hI1.res 9 rfl rfl) hz (by have := (List.getElem?_eq_some_iff.1 hu).1; simpa using this) hu (by rw [e1, Int.toNat_natCast, add_add]))) ?_; (refine gs ?_))
      refine gw ?_
      refine n_sameP (.bool (decide (({ z with ver := IntKind.i64.wrap ((O.length : Int) + 1) } : Vw) = ⟨nmK ki, 100, 0, IntKind.i64.wrap ((O.length : Int) + 1), d, u, h⟩))) rfl rfl rfl (fun _ w1 hp1 hI1 => same_ok { z with ver := IntKind.i64.wrap ((O.length : Int) + 1) } ⟨nmK ki, 100, 0, IntKind.i64.wrap ((O.length : Int) + 1), d, u, h⟩ w1) ?_; (refine gs ?_)
      refine n_br (fun hc => ?_) (fun hc => ?_)
      · have hcc := of_decide_eq_true hc
        have hA : Again O (xK ki d u h (O.length + 1)) := ⟨z, by rw [List.getLast?_eq_getElem?]; exact hz, by rw [e2] at hcc; exact hcc⟩
        have hsr : sayF x.r ki d u h = x.r := by unfold sayF; rw [hO, if_pos hA]
        (refine gs ?_)
        refine gw ?_
        refine n_ret rfl fun ids' w' hp hI' => ⟨_, rfl, x, T.S, rfl, by rw [hwi, Int.toNat_natCast]; exact hx, ?_⟩
        rw [hwi, hki, Int.toNat_natCast, Int.toNat_natCast]
        obtain ⟨q1, q2, q3, q4⟩ := tk_same (x' := x.say ki d u h) hx hk4 rfl hsr
        have h2 := hI'.join 2 8 (by decide) rfl rfl rfl rfl rfl rfl (fun h => all_in h (List.getElem?_set_self hAl))
        have h3 := h2.join 3 9 (by decide) rfl rfl rfl rfl rfl rfl (fun h => all_in h (List.getElem?_set_self (List.getElem?_eq_some_iff.1 hrw9).1))
        have E1 : rowRes 35 1 T.vo T.X.length T.vc (ptrs T.X) = rowRes 35 1 T.vo (T.X.set wi (x.say ki d u h)).length T.vc (ptrs (T.X.set wi (x.say ki d u h))) := by rw [q2, List.length_set]
        have E2 : allRes (((T.X.map Rp.res).set wi Res.none).set wi (viewsRes x.v x.mb x.nb (x.s.tell (xK ki d u h 1)).1)) = allRes ((T.X.set wi (x.say ki d u h)).map Rp.res) := by rw [q3, List.set_set]; rfl
        have E3 : allRes ((T.rows.set (wi * 4 + ki) Res.none).set (wi * 4 + ki) (vRow (some ⟨go, 0, none⟩) O.length sc (vws O))) = allRes ({ T with X := T.X.set wi (x.say ki d u h), S := T.S } : Tk).rows := by
          rw [q4, List.set_set]
          congr 1
          apply List.ext_getElem?
          intro k
          rw [List.getElem?_set]
          split
          · rename_i e
            subst e
            rw [hrw9, if_pos (List.getElem?_eq_some_iff.1 hrw9).1]
          · rfl
        exact post_shut (ids := [0, 0, 0, 0, 0, 0]) (mem := tkMem t { T with X := T.X.set wi (x.say ki d u h), S := T.S }) (ρ := tkRes t T) h3 rfl [0, 1, 2, 3, 4, 5] (.res (congrArg (fun c => some (⟨41, [.res (cellsRes t c 41)], true⟩ : SBlk)) q1.symm) (.res (congrArg (fun r => some (⟨35, [.res r], true⟩ : SBlk)) E1) (.res (congrArg (fun r => some (⟨84, [.res r], true⟩ : SBlk)) E2) (.res (congrArg (fun r => some (⟨49, [.res r], true⟩ : SBlk)) E3) (.res rfl (.res rfl .nil)))))) (by decide)
      · have hcc := of_decide_eq_false hc
        have hA : ¬ Again O (xK ki d u h (O.length + 1)) := by
          rintro ⟨z', hz', ez⟩
          rw [List.getLast?_eq_getElem?, hz] at hz'
          cases hz'
          rw [e2] at hcc
          exact hcc ez
        (refine gs ?_)
        refine gw ?_
        refine n_build1 rfl rfl elemVw rfl rfl rfl rfl rfl rfl rfl (cells_now ki 100 0 (IntKind.i64.wrap ((O.length : Int) + 1)) d u h) rfl ?_
        (refine gs ?_)
        refine gw ?_
        refine n_append (nv := (xK ki d u h (IntKind.i64.wrap ((O.length : Int) + 1))).l) 9 rfl rfl elemVw hitt hpt.1 hpt.2.1 hpt.2.2 rfl (by omega) rfl rfl rfl rfl rfl rfl (by omega) (by simp [Value.oneCell']) (by omega) (by omega) (show vws O ++ (xK ki d u h (IntKind.i64.wrap ((O.length : Int) + 1))).l = vws (O ++ [xK ki d u h (O.length + 1)]) by rw [e2]; exact vws_add _ _) fun g2 c2 => ?_
        (refine gs ?_)
        refine gw ?_
        refine n_storeA (n := t) (off := 1 + (wi * 4 + ki)) (k := 1) (l := T.cells) (v := .slice (some ⟨g2, 0, none⟩) (O.length + 1) c2) 0 (cellsRes t (tcl (.slice T.vo T.X.length T.vc) (fun k => if k = wi * 4 + ki then .slice (some ⟨g2, 0, none⟩) (O.length + 1) c2 else T.sl k) (.slice T.so T.T.length T.sc)) 41) (tcl (.slice T.vo T.X.length T.vc) (fun k => if k = wi * 4 + ki then .slice (some ⟨g2, 0, none⟩) (O.length + 1) c2 else T.sl k) (.slice T.so T.T.length T.sc)) rfl rfl rfl (by rw [Int.toNat_natCast, Int.toNat_natCast, add_mk2, add_mk2, add_mk2]; congr 1; show 0 + 1 + wi * 4 + ki * 1 = _; omega) rfl rfl sizeVws9 rfl rfl rfl rfl rfl (by simp [cellsRes]) (fun w h => h) (by rw [tcl_len]; omega) (tcl_set_had hj32) (fun _ _ _ _ h => h) (fun _ h => h) ?_
        (refine gs ?_)
        refine gw ?_
        refine n_ret rfl fun ids' w' hp hI' => ⟨_, rfl, x, (fun j => if j = wi * 4 + ki then (some ⟨g2, 0, none⟩, c2) else T.S j), rfl, by rw [hwi, Int.toNat_natCast]; exact hx, ?_⟩
        rw [hwi, hki, Int.toNat_natCast, Int.toNat_natCast]
        obtain ⟨q1, q2, q3, q4⟩ := tk_said (T := T) (x' := x.say ki d u h) (O' := O ++ [xK ki d u h (O.length + 1)]) (S' := fun j => if j = wi * 4 + ki then (some ⟨g2, 0, none⟩, c2) else T.S j) hx hk4 rfl (say_len x.r ki d u h).2.1 (fun m hm => by
          have h := say_own (r := x.r) ki d u h m hk4 hm
          rw [hO] at h
          refine h.trans ?_
          by_cases e : m = ki
          · rw [if_pos ⟨e, hA⟩, if_pos e]
          · rw [if_neg (fun h => e h.1), if_neg e]) (fun j hj => if_neg hj)
        simp only [if_pos, List.length_append, List.length_cons, List.length_nil] at q1 q4
        have h2 := hI'.join 2 8 (by decide) rfl rfl rfl rfl rfl rfl (fun h => all_in h (List.getElem?_set_self hAl))
        have h3 := h2.join 3 9 (by decide) rfl rfl rfl rfl rfl rfl (fun h => all_in h (List.getElem?_set_self (List.getElem?_eq_some_iff.1 hrw9).1))
        have E1 : rowRes 35 1 T.vo T.X.length T.vc (ptrs T.X) = rowRes 35 1 T.vo (T.X.set wi (x.say ki d u h)).length T.vc (ptrs (T.X.set wi (x.say ki d u h))) := by rw [q2, List.length_set]
        have E2 : allRes (((T.X.map Rp.res).set wi Res.none).set wi (viewsRes x.v x.mb x.nb (x.s.tell (xK ki d u h 1)).1)) = allRes ((T.X.set wi (x.say ki d u h)).map Rp.res) := by rw [q3, List.set_set]; rfl
        have E3 : allRes ((T.rows.set (wi * 4 + ki) Res.none).set (wi * 4 + ki) (vRow (some ⟨g2, 0, none⟩) (O.length + 1) c2 (vws (O ++ [xK ki d u h (O.length + 1)])))) = allRes ({ T with X := T.X.set wi (x.say ki d u h), S := (fun j => if j = wi * 4 + ki then (some ⟨g2, 0, none⟩, c2) else T.S j) } : Tk).rows := by rw [q4, List.set_set]
        exact post_shut (ids := [0, 0, 0, 0, 0, 0]) (mem := tkMem t { T with X := T.X.set wi (x.say ki d u h), S := (fun j => if j = wi * 4 + ki then (some ⟨g2, 0, none⟩, c2) else T.S j) }) (ρ := tkRes t T) h3 rfl [0, 1, 2, 3, 4, 5] (.res (congrArg (fun c => some (⟨41, [.res (cellsRes t c 41)], true⟩ : SBlk)) q1.symm) (.res (congrArg (fun r => some (⟨35, [.res r], true⟩ : SBlk)) E1) (.res (congrArg (fun r => some (⟨84, [.res r], true⟩ : SBlk)) E2) (.res (congrArg (fun r => some (⟨49, [.res r], true⟩ : SBlk)) E3) (.res rfl (.res rfl .nil)))))) (by decide)
    · have hA : ¬ Again O (xK ki d u h (O.length + 1)) := by
        rintro ⟨z', hz', ez⟩
        have h0 : O = [] := by
          have : O.length = 0 := by have h := of_decide_eq_false hb; omega
          simpa using this
        rw [h0] at hz'; cases hz'
      (refine gs ?_)
      refine gw ?_
      refine n_build1 rfl rfl elemVw rfl rfl rfl rfl rfl rfl rfl (cells_now ki 100 0 (IntKind.i64.wrap ((O.length : Int) + 1)) d u h) rfl ?_
      (refine gs ?_)
      refine gw ?_
      refine n_append (nv := (xK ki d u h (IntKind.i64.wrap ((O.length : Int) + 1))).l) 9 rfl rfl elemVw hitt hpt.1 hpt.2.1 hpt.2.2 rfl (by omega) rfl rfl rfl rfl rfl rfl (by omega) (by simp [Value.oneCell']) (by omega) (by omega) (show vws O ++ (xK ki d u h (IntKind.i64.wrap ((O.length : Int) + 1))).l = vws (O ++ [xK ki d u h (O.length + 1)]) by rw [e2]; exact vws_add _ _) fun g2 c2 => ?_
      (refine gs ?_)
      refine gw ?_
      refine n_storeA (n := t) (off := 1 + (wi * 4 + ki)) (k := 1) (l := T.cells) (v := .slice (some ⟨g2, 0, none⟩) (O.length + 1) c2) 0 (cellsRes t (tcl (.slice T.vo T.X.length T.vc) (fun k => if k = wi * 4 + ki then .slice (some ⟨g2, 0, none⟩) (O.length + 1) c2 else T.sl k) (.slice T.so T.T.length T.sc)) 41) (tcl (.slice T.vo T.X.length T.vc) (fun k => if k = wi * 4 + ki then .slice (some ⟨g2, 0, none⟩) (O.length + 1) c2 else T.sl k) (.slice T.so T.T.length T.sc)) rfl rfl rfl (by rw [Int.toNat_natCast, Int.toNat_natCast, add_mk2, add_mk2, add_mk2]; congr 1; show 0 + 1 + wi * 4 + ki * 1 = _; omega) rfl rfl sizeVws9 rfl rfl rfl rfl rfl (by simp [cellsRes]) (fun w h => h) (by rw [tcl_len]; omega) (tcl_set_had hj32) (fun _ _ _ _ h => h) (fun _ h => h) ?_
      (refine gs ?_)
      refine gw ?_
      refine n_ret rfl fun ids' w' hp hI' => ⟨_, rfl, x, (fun j => if j = wi * 4 + ki then (some ⟨g2, 0, none⟩, c2) else T.S j), rfl, by rw [hwi, Int.toNat_natCast]; exact hx, ?_⟩
      rw [hwi, hki, Int.toNat_natCast, Int.toNat_natCast]
      obtain ⟨q1, q2, q3, q4⟩ := tk_said (T := T) (x' := x.say ki d u h) (O' := O ++ [xK ki d u h (O.length + 1)]) (S' := fun j => if j = wi * 4 + ki then (some ⟨g2, 0, none⟩, c2) else T.S j) hx hk4 rfl (say_len x.r ki d u h).2.1 (fun m hm => by
        have h := say_own (r := x.r) ki d u h m hk4 hm
        rw [hO] at h
        refine h.trans ?_
        by_cases e : m = ki
        · rw [if_pos ⟨e, hA⟩, if_pos e]
        · rw [if_neg (fun h => e h.1), if_neg e]) (fun j hj => if_neg hj)
      simp only [if_pos, List.length_append, List.length_cons, List.length_nil] at q1 q4
      have h2 := hI'.join 2 8 (by decide) rfl rfl rfl rfl rfl rfl (fun h => all_in h (List.getElem?_set_self hAl))
      have h3 := h2.join 3 9 (by decide) rfl rfl rfl rfl rfl rfl (fun h => all_in h (List.getElem?_set_self (List.getElem?_eq_some_iff.1 hrw9).1))
      have E1 : rowRes 35 1 T.vo T.X.length T.vc (ptrs T.X) = rowRes 35 1 T.vo (T.X.set wi (x.say ki d u h)).length T.vc (ptrs (T.X.set wi (x.say ki d u h))) := by rw [q2, List.length_set]
      have E2 : allRes (((T.X.map Rp.res).set wi Res.none).set wi (viewsRes x.v x.mb x.nb (x.s.tell (xK ki d u h 1)).1)) = allRes ((T.X.set wi (x.say ki d u h)).map Rp.res) := by rw [q3, List.set_set]; rfl
      have E3 : allRes ((T.rows.set (wi * 4 + ki) Res.none).set (wi * 4 + ki) (vRow (some ⟨g2, 0, none⟩) (O.length + 1) c2 (vws (O ++ [xK ki d u h (O.length + 1)])))) = allRes ({ T with X := T.X.set wi (x.say ki d u h), S := (fun j => if j = wi * 4 + ki then (some ⟨g2, 0, none⟩, c2) else T.S j) } : Tk).rows := by rw [q4, List.set_set]
      exact post_shut (ids := [0, 0, 0, 0, 0, 0]) (mem := tkMem t { T with X := T.X.set wi (x.say ki d u h), S := (fun j => if j = wi * 4 + ki then (some ⟨g2, 0, none⟩, c2) else T.S j) }) (ρ := tkRes t T) h3 rfl [0, 1, 2, 3, 4, 5] (.res (congrArg (fun c => some (⟨41, [.res (cellsRes t c 41)], true⟩ : SBlk)) q1.symm) (.res (congrArg (fun r => some (⟨35, [.res r], true⟩ : SBlk)) E1) (.res (congrArg (fun r => some (⟨84, [.res r], true⟩ : SBlk)) E2) (.res (congrArg (fun r => some (⟨49, [.res r], true⟩ : SBlk)) E3) (.res rfl (.res rfl .nil)))))) (by decide)
end Go.Proofs.Ytcpecnpnnodfhaa
