/- Chapter 9's law without the document's answer, plain: what a replica has said. Chapter 9's law without the document's answer: the talk as parts of memory; within, names. Chapter 9's law without the document's answer: the talk after one replica has said something. Chapter 9's law without the document's answer: what a digest holds of the four names. Plain. -/
import Derived.Test.YtcpecnpnnodfhaaVwF
import Derived.Test.YtcpecnpnnodfhaaBnVd
import Derived.Test.YtcpecnpnnodfhaaBnVe
namespace Go.Proofs.Ytcpecnpnnodfhaa
section
set_option maxRecDepth 100000
set_option linter.unusedSimpArgs false
set_option linter.unusedVariables false
set_option maxHeartbeats 2000000
open Go.RowKit

def nmK : Nat → ByteArray
  | 0 => { data := #[97] }
  | 1 => { data := #[98] }
  | 2 => { data := #[98, 98] }
  | _ => { data := #[126] }
theorem nmK_named : ∀ k, k < 4 → namedB (nmK k) = true := by decide +kernel
theorem nmK_inj : ∀ i, i < 4 → ∀ j, j < 4 → nmK i = nmK j → i = j := by decide +kernel
theorem nmK_len : ∀ k, k < 4 → (nmK k).size ≤ maxLen := by decide +kernel
/-- What k has said of a name, in its order. -/
def ownL (All : List (Int × Vw)) (k : Int) (nm : ByteArray) : List Vw := (All.filter fun e => decide (e.1 = k ∧ e.2.nm = nm)).map (·.2)
theorem ownL_app (All : List (Int × Vw)) (e : Int × Vw) (k : Int) (nm : ByteArray) : ownL (All ++ [e]) k nm = ownL All k nm ++ if e.1 = k ∧ e.2.nm = nm then [e.2] else [] := by
  unfold ownL
  rw [List.filter_append, List.map_append]
  congr 1
  by_cases h : e.1 = k ∧ e.2.nm = nm
  · simp [h]
  · rw [if_neg h]; simp [h]
theorem ownL_nm {All : List (Int × Vw)} {k : Int} {nm : ByteArray} {x : Vw} (h : x ∈ ownL All k nm) : x.nm = nm ∧ (k, x) ∈ All := by
  obtain ⟨⟨k', y⟩, he, rfl⟩ := List.mem_map.1 h
  obtain ⟨h1, h2⟩ := List.mem_filter.1 he
  obtain ⟨rfl, h3⟩ := of_decide_eq_true h2
  exact ⟨h3, h1⟩
theorem ownL_le (All : List (Int × Vw)) (k : Int) (nm : ByteArray) : (ownL All k nm).length ≤ All.length := by unfold ownL; rw [List.length_map]; exact List.length_filter_le _ _
theorem last_own (All : List (Int × Vw)) (k : Int) (nm : ByteArray) : lastF All k nm = (ownL All k nm).getLast?.getD Vw.zero := by
  have key : ∀ (l : List (Int × Vw)) (a : Vw), l.foldl (lastStep k nm) a = (ownL l k nm).getLast?.getD a := by
    intro l
    induction l with
    | nil => intro a; rfl
    | cons e l ih =>
      intro a
      rw [List.foldl_cons, ih]
      unfold ownL lastStep
      rw [List.filter_cons]
      by_cases h : e.1 = k ∧ e.2.nm = nm
      · rw [if_pos h, if_pos (decide_eq_true h), List.map_cons, List.getLast?_cons]
        rfl
      · rw [if_neg h, if_neg (by simpa using h)]
  exact key All Vw.zero
structure Sp (r : Rv) : Prop where
  ver : ∀ nm, ((ownL r.All r.me nm).length : Int) = (lastF r.All r.me nm).ver
  nms : ∀ e ∈ r.All, ∃ k, k < 4 ∧ e.2.nm = nmK k
theorem ris_nodup {l : List ByteArray} (h : Rising l) : l.Nodup := h.imp fun {a b} hab e => by subst e; rw [ltS_irrefl] at hab; cases hab
theorem Sp.names {r : Rv} (h : Sp r) (k : Int) : (namesF r.All k).length ≤ 4 := by
  have h1 := nodup_le (m := [nmK 0, nmK 1, nmK 2, nmK 3]) (ris_nodup (namesF_spec k r.All).1) fun nm hn => by
    obtain ⟨e, he, _, rfl⟩ := ((namesF_spec k r.All).2 nm).1 hn
    obtain ⟨j, hj, e2⟩ := h.nms e he
    rw [e2]
    match j, hj with
    | 0, _ => simp
    | 1, _ => simp
    | 2, _ => simp
    | 3, _ => simp
  simpa using h1
abbrev xK (k : Nat) (d u h ver : Int) : Vw := ⟨nmK k, 100, 0, ver, d, u, h⟩
theorem right_xK {k : Nat} (hk : k < 4) {d u h ver : Int} (hd : 0 ≤ d ∧ d ≤ 30) (hu : 0 ≤ u ∧ u ≤ 30) (hh : 0 ≤ h ∧ h ≤ 30) (hv : 1 ≤ ver) : rightB (xK k d u h ver) = true := by
  unfold rightB
  rw [nmK_named k hk, Bool.true_and]
  refine decide_eq_true ?_
  dsimp only [Vw.lin]
  omega
/-- It says the same as last time. -/
def Again (o : List Vw) (x : Vw) : Prop := ∃ y, o.getLast? = some y ∧ ({ y with ver := x.ver } : Vw) = x
instance (o : List Vw) (x : Vw) : Decidable (Again o x) := match h : o.getLast? with
  | none => .isFalse fun ⟨y, hy, _⟩ => by rw [h] at hy; cases hy
  | some y => if e : ({ y with ver := x.ver } : Vw) = x then .isTrue ⟨y, h, e⟩ else .isFalse fun ⟨z, hz, ez⟩ => by rw [h] at hz; cases hz; exact e ez
def sayF (r : Rv) (k : Nat) (d u h : Int) : Rv := if Again (ownL r.All r.me (nmK k)) (xK k d u h ((ownL r.All r.me (nmK k)).length + 1)) then r else { r with All := r.All ++ [(r.me, xK k d u h ((ownL r.All r.me (nmK k)).length + 1))] }
theorem tell_say {r : Rv} (h : Sp r) (hl : r.All.length ≤ 100000) {k : Nat} (hk : k < 4) {d u hh : Int} (hd : 0 ≤ d ∧ d ≤ 30) (hu : 0 ≤ u ∧ u ≤ 30) (hhh : 0 ≤ hh ∧ hh ≤ 30) : r.tell (xK k d u hh 1) = (sayF r k d u hh, 0) := by
  have hr := right_xK hk hd hu hhh (ver := 1) (by omega)
  have hn := h.names r.me
  have hv := h.ver (nmK k)
  have ho := last_own r.All r.me (nmK k)
  have hle := ownL_le r.All r.me (nmK k)
  unfold Rv.tell sayF
  rw [if_neg (by rw [hr]; simp), if_neg (by omega)]
  have hw : wr ((lastF r.All r.me (nmK k)).ver + 1) = ((ownL r.All r.me (nmK k)).length : Int) + 1 := by rw [← hv]; exact w64 (by omega) (by omega)
  cases hg : (ownL r.All r.me (nmK k)).getLast? with
  | none =>
    have h0 : ownL r.All r.me (nmK k) = [] := by simpa using hg
    rw [if_neg (by rw [← hv, h0]; simp), if_neg (by rintro ⟨y, hy, _⟩; rw [hg] at hy; cases hy)]
    dsimp only
    rw [hw]
  | some y =>
    rw [hg] at ho
    simp only [Option.getD_some] at ho
    have hm : y ∈ ownL r.All r.me (nmK k) := List.mem_of_getLast? hg
    have hnm := (ownL_nm hm).1
    have hpos : 0 < (ownL r.All r.me (nmK k)).length := List.length_pos_of_mem hm
    by_cases hc : y.cap = 100 ∧ y.rc = 0 ∧ y.d = d ∧ y.u = u ∧ y.h = hh
    · have hA : Again (ownL r.All r.me (nmK k)) (xK k d u hh ((ownL r.All r.me (nmK k)).length + 1)) := by
        refine ⟨y, hg, ?_⟩
        obtain ⟨y1, y2, y3, y4, y5, y6, y7⟩ := y
        dsimp only at hc hnm ⊢
        obtain ⟨c1, c2, c3, c4, c5⟩ := hc
        rw [hnm, c1, c2, c3, c4, c5]
      rw [if_pos ⟨by rw [← hv]; omega, by rw [ho]; exact hc⟩, if_pos hA]
    · rw [if_neg (by rw [ho]; exact fun h => hc h.2), if_neg]
      · dsimp only
        rw [hw]
      · rintro ⟨z, hz, e⟩
        rw [hg] at hz
        cases hz
        injection e with _ e2 e3 _ e5 e6 e7
        exact hc ⟨e2, e3, e5, e6, e7⟩
theorem say_sp {r : Rv} (h : Sp r) {k : Nat} (hk : k < 4) (d u hh : Int) : Sp (sayF r k d u hh) := by
  unfold sayF
  split
  · exact h
  · refine ⟨fun nm => ?_, fun e he => ?_⟩
    · dsimp only
      rw [ownL_app, lastF_app]
      unfold lastStep
      dsimp only
      by_cases e : nmK k = nm
      · subst e
        rw [if_pos ⟨rfl, rfl⟩, if_pos ⟨rfl, rfl⟩]
        simp
      · rw [if_neg (fun h => e h.2), if_neg (fun h => e h.2)]
        simpa using h.ver nm
    · rcases List.mem_append.1 he with he | he
      · exact h.nms e he
      · simp at he; subst he; exact ⟨k, hk, rfl⟩
theorem say_len (r : Rv) (k : Nat) (d u hh : Int) : (sayF r k d u hh).All.length ≤ r.All.length + 1 ∧ (sayF r k d u hh).me = r.me ∧ (sayF r k d u hh).n = r.n := by
  unfold sayF
  split
  · exact ⟨by omega, rfl, rfl⟩
  · exact ⟨by simp, rfl, rfl⟩
theorem say_own {r : Rv} (k : Nat) (d u hh : Int) (j : Nat) (hk : k < 4) (hj : j < 4) : ownL (sayF r k d u hh).All r.me (nmK j) = if j = k ∧ ¬ Again (ownL r.All r.me (nmK k)) (xK k d u hh ((ownL r.All r.me (nmK k)).length + 1)) then ownL r.All r.me (nmK k) ++ [xK k d u hh ((ownL r.All r.me (nmK k)).length + 1)] else ownL r.All r.me (nmK j) := by
  unfold sayF
  by_cases ha : Again (ownL r.All r.me (nmK k)) (xK k d u hh ((ownL r.All r.me (nmK k)).length + 1))
  · rw [if_pos ha, if_neg (fun h => h.2 ha)]
  · rw [if_neg ha]
    dsimp only
    rw [ownL_app]
    by_cases e : j = k
    · subst e
      rw [if_pos ⟨rfl, rfl⟩, if_pos ⟨rfl, ha⟩]
    · rw [if_neg (fun h => e (nmK_inj k hk j hj h.2).symm), if_neg (fun h => e h.1), List.append_nil]
end
section
set_option maxRecDepth 100000
set_option linter.unusedSimpArgs false
set_option linter.unusedVariables false
set_option maxHeartbeats 8000000
open Go.RowKit

/-- A known block as cells. -/
theorem Inv.asCells {c : Ctx} {w : World} {ids : List Nat} {mem : Mem} (hI : Inv c w ids mem) (j : Nat) {bj : SBlk} {q : Nat} {xs : List Value} (hb : nth mem j = some bj) (hr : resOf bj = none) (hq : ids[j]? = some q) (hd : denL ids bj.cells = some xs) :
    Inv c w ids (setCells mem j [.res (cellsRes q xs bj.ty)]) := by
  have hB : Blk w q xs.toArray bj.ty := hI.at0 j hb hq hd
  rw [setCells_eq hb]
  have hfp : ∀ k, fpOf ids k { bj with cells := [SV.res (cellsRes q xs bj.ty)] } = [q] := fun k => by rw [fpOf_res (r := cellsRes q xs bj.ty) rfl]; rfl
  have hfj : fpOf ids j bj = [q] := fpOf_cells hr hq
  have key : ∀ k b, nth (setNth mem j { bj with cells := [SV.res (cellsRes q xs bj.ty)] }) k = some b → (k = j ∧ b = { bj with cells := [SV.res (cellsRes q xs bj.ty)] }) ∨ (k ≠ j ∧ nth mem k = some b) := by
    intro k b hk
    rw [nth_setNth] at hk
    split at hk
    · rename_i h1
      rw [if_pos (nth_lt hb)] at hk
      exact .inl ⟨h1.symm, by simpa using hk.symm⟩
    · rename_i h1
      exact .inr ⟨fun e => h1 e.symm, hk⟩
  have hfpe : ∀ k b, nth (setNth mem j { bj with cells := [SV.res (cellsRes q xs bj.ty)] }) k = some b → ∃ b0, nth mem k = some b0 ∧ fpOf ids k b = fpOf ids k b0 ∧ b.rw = b0.rw := by
    intro k b hk
    rcases key k b hk with ⟨rfl, rfl⟩ | ⟨_, h⟩
    · exact ⟨bj, hb, by rw [hfp, hfj], rfl⟩
    · exact ⟨b, h, rfl, rfl⟩
  refine ⟨hI.frm, by simp [setNth_len, hI.len], ?_, ?_, ?_⟩
  · intro k b hk
    rcases key k b hk with ⟨rfl, rfl⟩ | ⟨_, h⟩
    · refine ⟨hB, fun x hx => ?_⟩
      have := (hI.good k bj hb).lt x (by rw [hfj]; simpa [cellsRes] using hx)
      exact this
    · exact hI.good k b h
  · intro i k bi bk hi hk hik x hx hxk
    obtain ⟨b1, h1, h2, _⟩ := hfpe i bi hi
    obtain ⟨b2, h3, h4, _⟩ := hfpe k bk hk
    rw [h2] at hx
    rw [h4] at hxk
    exact hI.apart i k b1 b2 h1 h3 hik x hx hxk
  · intro i b hi hrw x hx
    obtain ⟨b1, h1, h2, h3⟩ := hfpe i b hi
    rw [h2] at hx
    exact hI.own i b1 h1 (h3 ▸ hrw) x hx

def withinF (x lo hi : Int) : Int := lo + (if x < 0 then -(x + 1) else x).tmod (hi - lo + 1)
theorem within_le {x lo hi : Int} (h : lo ≤ hi) : lo ≤ withinF x lo hi ∧ withinF x lo hi ≤ hi := by
  unfold withinF
  generalize hy : (if x < 0 then -(x + 1) else x) = y
  have hy0 : 0 ≤ y := by rw [← hy]; split <;> omega
  have h1 : y.tmod (hi - lo + 1) = y % (hi - lo + 1) := Int.tmod_eq_emod_of_nonneg hy0
  have h2 := Int.emod_nonneg y (show hi - lo + 1 ≠ 0 by omega)
  have h3 := Int.emod_lt_of_pos y (show 0 < hi - lo + 1 by omega)
  rw [h1]; omega
theorem within_ok (x lo hi : Int) (hx : i64 x) (hlo : 0 ≤ lo) (hle : lo ≤ hi) (hhi : hi ≤ 4611686018427387904) (w : World) :
    Calls Try.prog 12 #[.int .i64 x, .int .i64 lo, .int .i64 hi] w fun e w' => e = .returned (.int .i64 (withinF x lo hi)) ∧ Frm [] w w' := by
  have hI := Inv.nil (P := Try.prog) (N := 20) (S := []) (os := []) w
  have e1 : IntKind.i64.wrap (IntKind.i64.wrap (hi - lo) + 1) = hi - lo + 1 := by rw [w64 (n := hi - lo) (by omega) (by omega), w64 (by omega) (by omega)]
  have hb := within_le (x := x) hle
  have hne : ¬ hi - lo + 1 = 0 := by omega
  refine calls_sm (cx 20 [] [] w) (vals := [.int .i64 x, .int .i64 lo, .int .i64 hi]) mixed Try.func12 rfl rfl rfl hI rfl (st rfl ?_); conv => arg 3; whnf
  by_cases h1 : x < 0
  · have e2 : IntKind.i64.wrap (0 - IntKind.i64.wrap (x + 1)) = -(x + 1) := by rw [w64 (n := x + 1) (by omega) (by omega), w64 (by omega) (by omega)]; omega
    (repeat ((first | refine n_must rfl ?_ | refine n_chk (drawF_ok (by decide +kernel)) ?_ | refine n_same rfl ?_ | ((first | refine n_must ?_ ?_ | refine n_brT ?_ ?_); (focus (first | (simp [h1, e1, hne]; done) | (simp [h1, e1, hne]; omega) | (simp only [h1, e1, hne]; simp; done)))) | (refine n_brF ?_ ?_; (focus (first | (simp [h1, e1, hne]; done) | (simp [h1, e1, hne]; omega) | (simp only [h1, e1, hne]; simp; done)))) | refine n_must (by (with_reducible refine and_shape ?_) <;> kernel_rfl) ?_); (refine gs ?_)))
    refine n_ret0 rfl rfl fun ids' w' hp hI' => ⟨ret_int ?_, hI'.frm⟩
    have : withinF x lo hi = lo + (-(x + 1)).tmod (hi - lo + 1) := by unfold withinF; rw [if_pos h1]
    rw [e1, e2, ← this]; exact w64 (by omega) (by omega)
  · (repeat ((first | refine n_must rfl ?_ | refine n_chk (drawF_ok (by decide +kernel)) ?_ | refine n_same rfl ?_ | ((first | refine n_must ?_ ?_ | refine n_brT ?_ ?_); (focus (first | (simp [h1, e1, hne]; done) | (simp [h1, e1, hne]; omega) | (simp only [h1, e1, hne]; simp; done)))) | (refine n_brF ?_ ?_; (focus (first | (simp [h1, e1, hne]; done) | (simp [h1, e1, hne]; omega) | (simp only [h1, e1, hne]; simp; done)))) | refine n_must (by (with_reducible refine and_shape ?_) <;> kernel_rfl) ?_); (refine gs ?_)))
    refine n_ret0 rfl rfl fun ids' w' hp hI' => ⟨ret_int ?_, hI'.frm⟩
    have : withinF x lo hi = lo + x.tmod (hi - lo + 1) := by unfold withinF; rw [if_neg (by omega)]
    rw [e1, ← this]; exact w64 (by omega) (by omega)
theorem names_n (w : World) : Calls Try.prog 18 #[] w fun e w' => e = .returned (.agg #[.string (nmK 0), .string (nmK 1), .string (nmK 2), .string (nmK 3)]) ∧ Frm [] w w' := by
  have hI := Inv.nil (P := Try.prog) (N := 2) (S := []) (os := []) w
  refine calls_sm (cx 2 [] [] w) (vals := []) mixed Try.func18 rfl rfl rfl hI rfl (st rfl ?_); conv => arg 3; whnf
  refine gw ?_
  refine n_ret rfl fun ids' w' hp hI' => ⟨_, rfl, rfl, hI'.frm⟩

/-! ### The talk -/
/-- A replica's views; r: the document's, that only the proof knows. -/
structure Rp where
  v : Nat
  mb : Nat
  nb : Nat
  s : Vs
  r : Rv
abbrev Rp.res (x : Rp) : Res := viewsRes x.v x.mb x.nb x.s
/-- A digest under way. -/
structure Lt where
  f : Nat
  l : Option Addr × Nat
  L : List Vw
abbrev Lt.c (x : Lt) : List Value := [.int .i64 (x.f : Int), .slice x.l.1 x.L.length x.l.2]
theorem lt_len (x : Lt) : x.c.length = 2 := rfl
abbrev Lt.res (x : Lt) : Res := vRow x.l.1 x.L.length x.l.2 (vws x.L)
structure Tk where
  vo : Option Addr
  vc : Nat
  X : List Rp
  S : Nat → Option Addr × Nat
  so : Option Addr
  sc : Nat
  T : List Lt
/-- What has been said by the replica j / 4 of the name j % 4. -/
def hadL (X : List Rp) (j : Nat) : List Vw := match X[j / 4]? with
  | some x => ownL x.r.All x.r.me (nmK (j % 4))
  | none => []
def Tk.sl (T : Tk) (j : Nat) : Value := .slice (T.S j).1 (hadL T.X j).length (T.S j).2
def Tk.row (T : Tk) (j : Nat) : Res := vRow (T.S j).1 (hadL T.X j).length (T.S j).2 (vws (hadL T.X j))
def tcl (v : Value) (f : Nat → Value) (s : Value) : List Value := v :: ((List.range 32).map f ++ [s])
section
variable {v : Value} {f : Nat → Value} {s : Value}
theorem tcl_len : (tcl v f s).length = 34 := by simp [tcl]
theorem tcl_v : (tcl v f s)[0]? = some v := rfl
theorem tcl_had {j : Nat} (h : j < 32) : (tcl v f s)[1 + j]? = some (f j) := by
  rw [tcl, show 1 + j = j + 1 by omega, List.getElem?_cons_succ, List.getElem?_append_left (by simpa using h)]
  simp [h]
theorem tcl_s : (tcl v f s)[33]? = some s := by
  rw [tcl, show 33 = 32 + 1 by rfl, List.getElem?_cons_succ, List.getElem?_append_right (by simp)]
  simp
theorem set_one {l : List Value} {k : Nat} {u : Value} (hk : k < l.length) : l.take k ++ [u] ++ l.drop (k + 1) = l.set k u := by
  rw [List.set_eq_take_append_cons_drop, if_pos hk]; simp
theorem tcl_set_had {j : Nat} (h : j < 32) {u : Value} : (tcl v f s).take (1 + j) ++ [u] ++ (tcl v f s).drop (1 + j + 1) = tcl v (fun k => if k = j then u else f k) s := by
  rw [set_one (by rw [tcl_len]; omega), tcl, tcl, show 1 + j = j + 1 by omega, List.set_cons_succ, List.set_append_left _ _ (by simpa using h)]
  congr 2
  apply List.ext_getElem?
  intro k
  rw [List.getElem?_set]
  by_cases e : j = k
  · subst e
    simp [h]
  · rw [if_neg e]
    simp only [List.getElem?_map]
    by_cases hk : k < 32
    · rw [List.getElem?_range hk]
      simp only [Option.map_some]
      rw [if_neg fun h => e h.symm]
    · rw [List.getElem?_eq_none (by simp; omega)]; rfl
theorem tcl_congr {g : Nat → Value} (h : ∀ j, j < 32 → f j = g j) : tcl v f s = tcl v g s := by
  unfold tcl
  rw [List.map_congr_left fun j hj => h j (List.mem_range.1 hj)]
end
abbrev Tk.cells (T : Tk) : List Value := tcl (.slice T.vo T.X.length T.vc) T.sl (.slice T.so T.T.length T.sc)
abbrev Tk.rows (T : Tk) : List Res := (List.range 32).map T.row
abbrev ptrs (X : List Rp) : List Value := X.map fun x => pV x.v
abbrev tkMem (t : Nat) (T : Tk) : Mem := [⟨41, [.res (cellsRes t T.cells 41)], true⟩, ⟨35, [.res (rowRes 35 1 T.vo T.X.length T.vc (ptrs T.X))], true⟩, ⟨84, [.res (allRes (T.X.map Rp.res))], true⟩, ⟨49, [.res (allRes T.rows)], true⟩, ⟨44, [.res (rowRes 44 2 T.so T.T.length T.sc (T.T.flatMap Lt.c))], true⟩, ⟨49, [.res (allRes (T.T.map Lt.res))], true⟩]
abbrev tkRes (t : Nat) (T : Tk) : Res := memRes [0, 0, 0, 0, 0, 0] (tkMem t T)
theorem tk_v {t : Nat} {T : Tk} {w : World} (h : (cellsRes t T.cells 41).R w) {a : Addr} (ha : a = ⟨t, 0, none⟩) : w.cell? a = some (.slice T.vo T.X.length T.vc) :=
  cellsRes_at h (j := 0) tcl_v (by rw [ha]; rfl)
theorem tk_had {t : Nat} {T : Tk} {w : World} (h : (cellsRes t T.cells 41).R w) {j : Nat} (hj : j < 32) {a : Addr} (ha : a = ⟨t, 1 + j, none⟩) : w.cell? a = some (T.sl j) :=
  cellsRes_at h (j := 1 + j) (tcl_had hj) (by rw [ha, add_mk])
theorem tk_s {t : Nat} {T : Tk} {w : World} (h : (cellsRes t T.cells 41).R w) {a : Addr} (ha : a = ⟨t, 33, none⟩) : w.cell? a = some (.slice T.so T.T.length T.sc) :=
  cellsRes_at h (j := 33) tcl_s (by rw [ha, add_mk])
structure Tk.ok (T : Tk) (n N : Nat) : Prop where
  len : T.X.length = n
  nn : 2 ≤ n ∧ n ≤ 8
  rel : ∀ (i : Nat) x, T.X[i]? = some x → VRel x.s x.r n ∧ Sp x.r ∧ x.r.me = (i : Int) ∧ x.r.All.length ≤ 10 * N
end
section
set_option maxRecDepth 100000
set_option linter.unusedSimpArgs false
set_option linter.unusedVariables false
open Go.RowKit

theorem hadL_set {X : List Rp} {wi ki : Nat} {x x' : Rp} {O' : List Vw} (hx : X[wi]? = some x) (hk : ki < 4) (hme : x'.r.me = x.r.me) (ho : ∀ m, m < 4 → ownL x'.r.All x.r.me (nmK m) = if m = ki then O' else ownL x.r.All x.r.me (nmK m)) (j : Nat) :
    hadL (X.set wi x') j = if j = wi * 4 + ki then O' else hadL X j := by
  unfold hadL
  have hl := (List.getElem?_eq_some_iff.1 hx).1
  rw [List.getElem?_set]
  by_cases h : wi = j / 4
  · rw [if_pos h, if_pos hl]
    dsimp only
    rw [hme, ho _ (Nat.mod_lt _ (by omega)), ← h, hx]
    dsimp only
    by_cases e : j % 4 = ki
    · rw [if_pos e, if_pos (by omega)]
    · rw [if_neg e, if_neg (by omega)]
  · rw [if_neg h, if_neg (by omega)]
theorem tk_said {T : Tk} {wi ki : Nat} {x x' : Rp} {O' : List Vw} {S' : Nat → Option Addr × Nat} (hx : T.X[wi]? = some x) (hk : ki < 4) (hv : x'.v = x.v) (hme : x'.r.me = x.r.me) (ho : ∀ m, m < 4 → ownL x'.r.All x.r.me (nmK m) = if m = ki then O' else ownL x.r.All x.r.me (nmK m)) (hS : ∀ j, j ≠ wi * 4 + ki → S' j = T.S j) :
    ({ T with X := T.X.set wi x', S := S' } : Tk).cells = tcl (.slice T.vo T.X.length T.vc) (fun k => if k = wi * 4 + ki then .slice (S' (wi * 4 + ki)).1 O'.length (S' (wi * 4 + ki)).2 else T.sl k) (.slice T.so T.T.length T.sc) ∧
      ptrs (T.X.set wi x') = ptrs T.X ∧ (T.X.set wi x').map Rp.res = (T.X.map Rp.res).set wi x'.res ∧
      ({ T with X := T.X.set wi x', S := S' } : Tk).rows = T.rows.set (wi * 4 + ki) (vRow (S' (wi * 4 + ki)).1 O'.length (S' (wi * 4 + ki)).2 (vws O')) := by
  have hl := (List.getElem?_eq_some_iff.1 hx).1
  refine ⟨?_, ?_, List.map_set, ?_⟩
  · unfold Tk.cells
    dsimp only
    rw [List.length_set]
    refine tcl_congr fun j _ => ?_
    unfold Tk.sl
    dsimp only
    rw [hadL_set hx hk hme ho]
    by_cases e : j = wi * 4 + ki
    · subst e; rw [if_pos rfl, if_pos rfl]
    · rw [if_neg e, if_neg e, hS j e]
  · unfold ptrs
    rw [List.map_set]
    apply List.ext_getElem?
    intro k
    rw [List.getElem?_set]
    split
    · rename_i e
      subst e
      rw [if_pos (by simpa using hl), List.getElem?_map, hx, hv]; rfl
    · rfl
  · unfold Tk.rows
    apply List.ext_getElem?
    intro j
    rw [List.getElem?_set]
    by_cases hj : j < 32
    · rw [List.getElem?_map, List.getElem?_range hj]
      simp only [Option.map_some, List.getElem?_map, List.getElem?_range hj, List.length_map, List.length_range]
      unfold Tk.row
      dsimp only
      rw [hadL_set hx hk hme ho]
      by_cases e : wi * 4 + ki = j
      · rw [if_pos e.symm, if_pos e, if_pos (by omega)]; rw [e]
      · rw [if_neg (fun h => e h.symm), if_neg e, hS j (fun h => e h.symm)]
    · rw [List.getElem?_eq_none (by simp; omega)]
      split
      · rw [if_neg (by simp; omega)]
      · rw [List.getElem?_eq_none (by simp; omega)]
theorem tk_same {T : Tk} {wi ki : Nat} {x x' : Rp} (hx : T.X[wi]? = some x) (hk : ki < 4) (hv : x'.v = x.v) (hr : x'.r = x.r) :
    ({ T with X := T.X.set wi x', S := T.S } : Tk).cells = T.cells ∧ ptrs (T.X.set wi x') = ptrs T.X ∧ (T.X.set wi x').map Rp.res = (T.X.map Rp.res).set wi x'.res ∧
      ({ T with X := T.X.set wi x', S := T.S } : Tk).rows = T.rows := by
  obtain ⟨-, h2, h3, -⟩ := tk_said (S' := T.S) (x' := x') (O' := ownL x.r.All x.r.me (nmK ki)) hx hk hv (by rw [hr]) (fun m _ => by
    rw [hr]
    by_cases e : m = ki
    · subst e; rw [if_pos rfl]
    · rw [if_neg e]) (fun _ _ => rfl)
  have hh : ∀ j, hadL (T.X.set wi x') j = hadL T.X j := fun j => by
    rw [hadL_set (O' := ownL x.r.All x.r.me (nmK ki)) hx hk (by rw [hr]) (fun m _ => by
      rw [hr]
      by_cases e : m = ki
      · subst e; rw [if_pos rfl]
      · rw [if_neg e])]
    by_cases e : j = wi * 4 + ki
    · subst e
      rw [if_pos rfl]
      unfold hadL
      rw [show (wi * 4 + ki) / 4 = wi by omega, show (wi * 4 + ki) % 4 = ki by omega, hx]
    · rw [if_neg e]
  refine ⟨?_, h2, h3, ?_⟩
  · unfold Tk.cells
    dsimp only
    rw [List.length_set]
    refine tcl_congr fun j _ => ?_
    unfold Tk.sl
    dsimp only
    rw [hh]
  · unfold Tk.rows
    refine List.map_congr_left fun j _ => ?_
    unfold Tk.row
    dsimp only
    rw [hh]
theorem cells_now (k : Nat) (a b ver d u h : Int) : cells1 (.agg [.raw (.string (nmK k)), .int .i64 a, .int .i64 b, .int .i64 ver, .int .i64 d, .int .i64 u, .int .i64 h]) = some [.raw (.string (nmK k)), .int .i64 a, .int .i64 b, .int .i64 ver, .int .i64 d, .int .i64 u, .int .i64 h] := by
  simp [cells1, svCells, allOne, oneSV, Value.oneCell']
end
section
set_option maxRecDepth 100000
set_option linter.unusedSimpArgs false
set_option linter.unusedVariables false
open Go.RowKit

theorem notT {b : Bool} (h : (!b) = true) : b = false := by cases b <;> simp_all
def digU (r : Rv) (m : Nat) : List Vw := ((List.range m).filter fun j => !(ownL r.All r.me (nmK j)).isEmpty).map fun j => lastF r.All r.me (nmK j)
theorem digU_next (r : Rv) (m : Nat) : digU r (m + 1) = if (ownL r.All r.me (nmK m)).isEmpty then digU r m else digU r m ++ [lastF r.All r.me (nmK m)] := by
  unfold digU
  rw [List.range_succ, List.filter_append, List.map_append]
  by_cases h : (ownL r.All r.me (nmK m)).isEmpty
  · rw [if_pos h]; simp [h]
  · rw [if_neg h]; simp [h]
theorem digU_pre (r : Rv) {m k : Nat} (h : m ≤ k) : ∃ l, digU r k = digU r m ++ l := by
  induction k with
  | zero => obtain rfl : m = 0 := by omega
            exact ⟨[], by simp⟩
  | succ k ih =>
    by_cases e : m = k + 1
    · subst e; exact ⟨[], by simp⟩
    · obtain ⟨l, hl⟩ := ih (by omega)
      rw [digU_next, hl]
      split
      · exact ⟨l, rfl⟩
      · exact ⟨l ++ [lastF r.All r.me (nmK k)], by simp⟩
/-- Where the name m stands. -/
theorem digU_at (r : Rv) {m : Nat} (hm : m < 4) (h : (ownL r.All r.me (nmK m)).isEmpty = false) : (digU r 4)[(digU r m).length]? = some (lastF r.All r.me (nmK m)) := by
  obtain ⟨l, hl⟩ := digU_pre r (show m + 1 ≤ 4 by omega)
  rw [digU_next r m, if_neg (by rw [h]; simp)] at hl
  rw [hl]
  simp
theorem lastK_nm {r : Rv} {k : Nat} (h : (ownL r.All r.me (nmK k)).isEmpty = false) : (lastF r.All r.me (nmK k)).nm = nmK k ∧ lastF r.All r.me (nmK k) ∈ ownL r.All r.me (nmK k) := by
  rw [last_own]
  cases hg : (ownL r.All r.me (nmK k)).getLast? with
  | none => rw [List.getLast?_eq_none_iff] at hg; rw [hg] at h; cases h
  | some y =>
    have hm := List.mem_of_getLast? hg
    exact ⟨(ownL_nm hm).1, hm⟩
theorem nmK_lt : ∀ i, i < 4 → ∀ j, j < 4 → i < j → ltS (nmK i) (nmK j) = true := by decide +kernel
theorem digU_ris (r : Rv) : RisV (digU r 4) := by
  unfold digU RisV
  rw [List.pairwise_map]
  refine (List.pairwise_lt_range.filter _).imp_of_mem fun {i j} hi hj hij => ?_
  obtain ⟨hi1, hi2⟩ := List.mem_filter.1 hi
  obtain ⟨hj1, hj2⟩ := List.mem_filter.1 hj
  rw [(lastK_nm (notT hi2)).1, (lastK_nm (notT hj2)).1]
  exact nmK_lt i (List.mem_range.1 hi1) j (List.mem_range.1 hj1) hij
/-- A digest holds of each name of the four what was said last. -/
theorem dig_four {s : Vs} {r : Rv} {n : Nat} (h : VRel s r n) (hs : Sp r) : rDigF r = digU r 4 := by
  refine ris_unique (rDig_ris h) (digU_ris r) fun x => ?_
  unfold rDigF digU
  rw [List.mem_map, List.mem_map]
  constructor
  · rintro ⟨nm, hn, rfl⟩
    obtain ⟨e, he, h1, rfl⟩ := ((namesF_spec r.me r.All).2 nm).1 hn
    obtain ⟨j, hj, e2⟩ := hs.nms e he
    refine ⟨j, List.mem_filter.2 ⟨List.mem_range.2 hj, ?_⟩, by rw [e2]⟩
    have : e.2 ∈ ownL r.All r.me (nmK j) := List.mem_map.2 ⟨e, List.mem_filter.2 ⟨he, decide_eq_true ⟨h1, e2⟩⟩, rfl⟩
    cases ho : ownL r.All r.me (nmK j) with
    | nil => rw [ho] at this; cases this
    | cons a l => rfl
  · rintro ⟨j, hj, rfl⟩
    obtain ⟨hj1, hj2⟩ := List.mem_filter.1 hj
    obtain ⟨h1, h2⟩ := lastK_nm (r := r) (k := j) (notT hj2)
    obtain ⟨h3, h4⟩ := ownL_nm h2
    exact ⟨nmK j, ((namesF_spec r.me r.All).2 (nmK j)).2 ⟨_, h4, rfl, h3⟩, rfl⟩
end
end Go.Proofs.Ytcpecnpnnodfhaa
