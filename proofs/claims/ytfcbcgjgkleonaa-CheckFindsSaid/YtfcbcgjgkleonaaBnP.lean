/- Package check: Search: keys of states, what from does, in plain lists. Package check: a search's memory. -/
import Derived.Test.YtfcbcgjgkleonaaBnR
import Derived.Test.YtfcbcgjgkleonaaAs
import Derived.Test.YtfcbcgjgkleonaaBnZ
namespace Go.Proofs.Ytfcbcgjgkleonaa
section
set_option maxRecDepth 100000
set_option linter.unusedSimpArgs false
set_option linter.unusedVariables false
set_option maxHeartbeats 8000000
open Go.RowKit
open Go.Maps (Keyed)

/-! ### Keys -/
theorem cellsState : Try.prog.cellsOf 102 = 37 := by kernel_rfl
theorem wideState : (match Try.prog.underlying 102 with | some (.array _ _) | some (.struct _) => true | _ => false) = true := by rw [Try.underlying102]
theorem stateK : Keyed Try.prog 102 := Keyed.of_law (deep_law_laid (by kernel_rfl) (m := 3) (by omega) (of_decide_eq_true (by kernel_rfl)) (by kernel_rfl) wideState)
theorem stateTy : Try.prog.keyType 102 = true := by kernel_rfl
theorem mapM_some {α β : Type} {f : α → Option β} : ∀ {l : List α}, (∀ x ∈ l, ∃ y, f x = some y) → ∃ ys, l.mapM f = some ys
  | [], _ => ⟨[], rfl⟩
  | x :: l, h => by
    obtain ⟨y, hy⟩ := h x (by simp)
    obtain ⟨ys, hys⟩ := mapM_some (l := l) fun z hz => h z (by simp [hz])
    exact ⟨y :: ys, by rw [List.mapM_cons, hy, hys]; rfl⟩
theorem state_of {x : List Int} (hl : x.length = 37) (h : ∀ v ∈ x, i64 v) : ∃ l, keyOf Try.prog 102 (.agg (ints x).toArray) = some l := by
  have hf : (Value.agg (ints x).toArray).formed Try.prog 102 = true := by simp [Value.formed, Try.underlying102, cellsState, hl]
  have hci : Try.prog.cellsOf 3 = 1 := by kernel_rfl
  obtain ⟨n, hn⟩ := typesN
  unfold keyOf
  simp only [Try.underlying102, stateTy, hf, Bool.and_self, if_true, Value.cells, hn]
  simp only [Program.keyLits, Try.underlying102, cellsState]
  rw [if_pos (by simp [hl])]
  obtain ⟨ys, hys⟩ := mapM_some (f := fun i => Try.prog.keyLits (n + 1) 3 (((ints x).drop (i * Try.prog.cellsOf 3)).take (Try.prog.cellsOf 3))) (l := List.range 37) (fun i hi => by
    have hi' : i < x.length := by rw [hl]; exact List.mem_range.1 hi
    have hd : ((ints x).drop (i * 1)).take 1 = [.int .i64 x[i]] := by
      rw [Nat.mul_one, List.drop_eq_getElem_cons (by simpa using hi')]
      simp
    rw [hci, hd]
    simp only [Program.keyLits, Try.underlying3]
    exact ⟨[.int .i64 x[i]], by simp [wf_of_i64 (h _ (List.getElem_mem hi'))]⟩)
  simp only [Program.keyLits] at hys
  rw [hys]
  exact ⟨_, rfl⟩
def stateE : KeyEnc Try.prog 102 (List Int) where
  ek x := .agg (ints x).toArray
  ok x := x.length = 37 ∧ ∀ v ∈ x, i64 v
  key x hx := state_of hx.1 hx.2
  inj x y h := by
    simp only [Value.agg.injEq] at h
    have h2 := congrArg Array.toList h
    simp only [List.toList_toArray] at h2
    exact (List.map_inj_right (f := Value.int .i64) (fun a b e => by simpa using e)).1 h2
abbrev Vm := List (List Int × Bool)
/-- What has been tried in vain, as a part. -/
def vmRes (b : Nat) (V : Vm) : Res where
  fp := [b]
  R w := MapOf stateE boolV w b V
  stable := fun w w' hk h => h.keep (hk b (by simp))

/-! ### Bits -/
theorem bit_shr (st i : Nat) (hs : st < 4096) (hi : i < 12) : andI .i64 (shrI .i64 (st : Int) (i : Int)) 1 = if st.testBit i then 1 else 0 := by
  have h1 : shrI .i64 (st : Int) (i : Int) = ((st >>> i : Nat) : Int) := by
    unfold shrI
    have : min (Int.toNat (i : Int)) (IntKind.i64.bits) = i := by
      have : IntKind.i64.bits = 64 := rfl
      rw [this]; simp; omega
    rw [this, Nat.shiftRight_eq_div_pow]
    rw [Int.fdiv_eq_ediv_of_nonneg _ (by exact Int.le_of_lt (Int.pow_pos (by omega)))]
    norm_cast
  rw [h1]
  have hlt : st >>> i < 4096 := by rw [Nat.shiftRight_eq_div_pow]; exact Nat.lt_of_le_of_lt (Nat.div_le_self _ _) hs
  have h2 : ∀ n : Nat, n < 4096 → andI .i64 (n : Int) 1 = if n.testBit 0 then 1 else 0 := by
    have : ∀ n : Fin 4096, andI .i64 ((n : Nat) : Int) 1 = if (n : Nat).testBit 0 then 1 else 0 := by decide +kernel
    exact fun n hn => this ⟨n, hn⟩
  rw [h2 _ hlt, Nat.testBit_shiftRight, Nat.add_zero]
theorem bit_or (st i : Nat) (hs : st < 4096) (hi : i < 12) : orI .i64 (st : Int) (shlI .i64 1 (i : Int)) = ((st ||| 2 ^ i : Nat) : Int) := by
  have h2 : shlI .i64 1 (i : Int) = ((2 ^ i : Nat) : Int) := by
    have : ∀ i : Fin 12, shlI .i64 1 ((i : Nat) : Int) = ((2 ^ (i : Nat) : Nat) : Int) := by decide +kernel
    exact this ⟨i, hi⟩
  rw [h2]
  have hp : 2 ^ i < 4096 := by
    have : 2 ^ i < 2 ^ 12 := Nat.pow_lt_pow_right (by omega) hi
    simpa using this
  unfold orI
  have e1 : BitVec.ofInt (IntKind.i64.bits) ((st : Nat) : Int) = BitVec.ofNat 64 st := BitVec.ofInt_natCast ..
  have e2 : BitVec.ofInt (IntKind.i64.bits) ((2 ^ i : Nat) : Int) = BitVec.ofNat 64 (2 ^ i) := BitVec.ofInt_natCast ..
  have hor : st ||| 2 ^ i < 4096 := by
    have := Nat.or_lt_two_pow (x := st) (y := 2 ^ i) (n := 12) (by simpa using hs) (by simpa using hp)
    simpa using this
  have e3 : (BitVec.ofNat 64 st ||| BitVec.ofNat 64 (2 ^ i)).toNat = st ||| 2 ^ i := by
    rw [BitVec.toNat_or, BitVec.toNat_ofNat, BitVec.toNat_ofNat, Nat.mod_eq_of_lt (by omega), Nat.mod_eq_of_lt (by omega)]
  rw [e1, e2]
  show IntKind.i64.wrap ((BitVec.ofNat 64 st ||| BitVec.ofNat 64 (2 ^ i)).toNat : Int) = _
  rw [e3]
  exact w64 (by omega) (by omega)
theorem or_lt {st i : Nat} (hs : st < 4096) (hi : i < 12) : st ||| 2 ^ i < 4096 := by
  have hp : 2 ^ i < 2 ^ 12 := Nat.pow_lt_pow_right (by omega) hi
  have := Nat.or_lt_two_pow (x := st) (y := 2 ^ i) (n := 12) (by simpa using hs) hp
  simpa using this

/-! ### What from does -/
structure Srch where
  L : List Pa
  H : List Int
  Ns : List ByteArray
abbrev Srch.n (S : Srch) : Nat := S.L.length
def Pa.zero : Pa := ⟨0, 0, 0, { data := #[] }, 0, 0, 0, 0, 0, 0⟩
abbrev Srch.p (S : Srch) (i : Nat) : Pa := S.L.getD i Pa.zero
def peek3 (A : All) (nm : ByteArray) : List Int := match mget A nm with | some s => [s.value, s.held, s.limit] | none => [0, 0, 0]
def kcF (S : Srch) (A : All) (k j m : Nat) : Int := if j < k then (peek3 A (S.Ns.getD j { data := #[] })).getD m 0 else 0
def keyL (S : Srch) (st : Nat) (A : All) (k : Nat) : List Int := [(st : Int), kcF S A k 0 0, kcF S A k 0 1, kcF S A k 0 2, kcF S A k 1 0, kcF S A k 1 1, kcF S A k 1 2, kcF S A k 2 0, kcF S A k 2 1, kcF S A k 2 2, kcF S A k 3 0, kcF S A k 3 1, kcF S A k 3 2, kcF S A k 4 0, kcF S A k 4 1, kcF S A k 4 2, kcF S A k 5 0, kcF S A k 5 1, kcF S A k 5 2, kcF S A k 6 0, kcF S A k 6 1, kcF S A k 6 2, kcF S A k 7 0, kcF S A k 7 1, kcF S A k 7 2, kcF S A k 8 0, kcF S A k 8 1, kcF S A k 8 2, kcF S A k 9 0, kcF S A k 9 1, kcF S A k 9 2, kcF S A k 10 0, kcF S A k 10 1, kcF S A k 10 2, kcF S A k 11 0, kcF S A k 11 1, kcF S A k 11 2]
def keyF (S : Srch) (st : Nat) (A : All) : List Int := keyL S st A S.Ns.length
def leftF (S : Srch) (st : Nat) : Bool := (List.range S.n).any fun i => decide (sortF (S.p i) = 2) && !st.testBit i
def earlyF (S : Srch) (st i : Nat) : Bool := (List.range S.n).all fun k => !(!st.testBit k && decide (sortF (S.p k) = 2) && decide ((S.p k).to < (S.p i).fr))
def candF (S : Srch) (st i : Nat) : Bool := !(st.testBit i || decide (sortF (S.p i) = 0) || (decide (sortF (S.p i) = 1) && !openF (S.p i))) && earlyF S st i
def doS (S : Srch) (A : All) (i : Nat) : All × Int × Int := doF A 0 (S.p i).k (S.p i).nm (S.p i).a (S.p i).b (S.H.getD i 0)
def badF (S : Srch) (i : Nat) (D : All × Int × Int) : Bool := (decide (sortF (S.p i) = 2) && (decide (D.2.2 ≠ (S.p i).er) || decide (D.2.1 ≠ (S.p i).va))) || (decide (sortF (S.p i) = 1) && decide (D.2.2 ≠ 0))
def tryF (rec : Nat → All → Vm → Option (List Nat) × Vm) (S : Srch) (st : Nat) (A : All) : List Nat → Vm → Option (List Nat) × Vm
  | [], V => (none, mput V (keyF S st A) true)
  | i :: r, V => if candF S st i = false then tryF rec S st A r V else if badF S i (doS S A i) = true then tryF rec S st A r V else
    match rec (st ||| 2 ^ i) (doS S A i).1 V with
    | (some l, V') => (some (i :: l), V')
    | (none, V') => tryF rec S st A r V'
def fromF (S : Srch) : Nat → Nat → All → Vm → Option (List Nat) × Vm
  | 0, _, _, V => (none, V)
  | n + 1, st, A, V => if leftF S st = false then (some [], V) else if (mget V (keyF S st A)).getD false = true then (none, V) else tryF (fromF S n) S st A (List.range S.n) V
def unset (S : Srch) (st : Nat) : Nat := (List.range S.n).countP fun i => !st.testBit i
theorem unset_or {S : Srch} {st i : Nat} (hi : i < S.n) (hb : st.testBit i = false) : unset S (st ||| 2 ^ i) < unset S st := by
  unfold unset
  have key : ∀ l : List Nat, i ∈ l → l.countP (fun k => !(st ||| 2 ^ i).testBit k) < l.countP (fun k => !st.testBit k) := by
    have mono : ∀ l : List Nat, l.countP (fun k => !(st ||| 2 ^ i).testBit k) ≤ l.countP (fun k => !st.testBit k) := fun l => List.countP_mono_left fun k _ h => by
      simp [Nat.testBit_or] at h ⊢; exact h.1
    intro l
    induction l with
    | nil => intro h; simp at h
    | cons k l ih =>
      intro h
      rw [List.countP_cons, List.countP_cons]
      by_cases e : k = i
      · subst e
        have h1 : (!(st ||| 2 ^ k).testBit k) = false := by simp [Nat.testBit_or, Nat.testBit_two_pow_self]
        rw [h1, hb]
        have := mono l
        simp only [Bool.not_false, if_true, Bool.false_eq_true, if_false]
        omega
      · have hm : i ∈ l := by rcases List.mem_cons.1 h with h | h; exact absurd h.symm e; exact h
        have := ih hm
        have h3 : (st ||| 2 ^ i).testBit k = st.testBit k := by rw [Nat.testBit_or, Nat.testBit_two_pow_of_ne fun h => e h.symm, Bool.or_false]
        rw [h3]; omega
  exact key _ (List.mem_range.2 hi)
theorem tryF_len {rec : Nat → All → Vm → Option (List Nat) × Vm} {n : Nat} (h : ∀ st A V l, (rec st A V).1 = some l → l.length ≤ n) (S : Srch) (st : Nat) (A : All) : ∀ (r : List Nat) (V : Vm) (l : List Nat), (tryF rec S st A r V).1 = some l → l.length ≤ n + 1
  | [], V, l, hl => by simp [tryF] at hl
  | i :: r, V, l, hl => by
    rw [tryF] at hl
    split at hl
    · exact tryF_len h S st A r V l hl
    · split at hl
      · exact tryF_len h S st A r V l hl
      · split at hl
        · rename_i l' V' he
          simp at hl
          subst hl
          have := h _ _ _ l' (by rw [he])
          simp; omega
        · exact tryF_len h S st A r _ l hl
theorem fromF_len (S : Srch) : ∀ (n st : Nat) (A : All) (V : Vm) (l : List Nat), (fromF S n st A V).1 = some l → l.length ≤ n
  | 0, _, _, _, l, h => by simp [fromF] at h
  | n + 1, st, A, V, l, h => by
    rw [fromF] at h
    split at h
    · simp at h; subst h; simp
    · split at h
      · simp at h
      · exact tryF_len (fun st A V l => fromF_len S n st A V l) S st A _ V l h
end
section
set_option maxRecDepth 100000
set_option linter.unusedSimpArgs false
set_option linter.unusedVariables false
set_option maxHeartbeats 16000000
open Go.RowKit

abbrev strs (l : List ByteArray) : List Value := l.map Value.string
structure SA where
  ho : Option Addr
  hc : Nat
  so : Option Addr
  sc : Nat
  d : Option Addr
  dc : Nat
  no : Option Addr
  nc : Nat
  vb : Nat
abbrev soRes (a : SA) (l : List Int) : Res := rowRes 79 1 a.so l.length a.sc (ints l)
abbrev dRes (a : SA) (l : List Int) : Res := rowRes 3 1 a.d l.length a.dc (ints l)
abbrev nmRes (a : SA) (l : List ByteArray) : Res := rowRes 9 1 a.no l.length a.nc (strs l)
abbrev srMem (a : SA) (S : Srch) : Mem := [⟨77, [.raw (.slice a.ho S.n a.hc), .raw (.slice a.so (S.L.map sortF).length a.sc), .raw (.slice a.d S.H.length a.dc), .raw (.slice a.no S.Ns.length a.nc), .raw (.map (some a.vb))], true⟩, ⟨55, [.res (paRes a.ho S.L)], true⟩, ⟨79, [.res (soRes a (S.L.map sortF))], true⟩, ⟨3, [.res (dRes a S.H)], true⟩, ⟨9, [.res (nmRes a S.Ns)], true⟩]
def srRes (p : Nat) (a : SA) (S : Srch) : Res := memRes [p, 0, 0, 0, 0] (srMem a S)
theorem aggPasts : aggB Try.prog 22 = some false := by kernel_rfl
theorem aggSorts : aggB Try.prog 74 = some false := by kernel_rfl
theorem aggSort : aggB Try.prog 79 = some false := by kernel_rfl
theorem aggInts : aggB Try.prog 30 = some false := by kernel_rfl
theorem aggStrs : aggB Try.prog 75 = some false := by kernel_rfl
theorem aggVm : aggB Try.prog 73 = some false := by kernel_rfl
section
variable {p : Nat} {a : SA} {S : Srch} {w : World}
theorem sr_cell (h : (srRes p a S).R w) (j : Nat) {u : Value} (hu : [Value.slice a.ho S.n a.hc, .slice a.so (S.L.map sortF).length a.sc, .slice a.d S.H.length a.dc, .slice a.no S.Ns.length a.nc, .map (some a.vb)][j]? = some u) {ad : Addr} (ha : ad = (⟨p, 0, none⟩ : Addr).add j) : w.cell? ad = some u :=
  blk_at (memRes_blk (ids := [p, 0, 0, 0, 0]) (mem := srMem a S) h 0 rfl rfl rfl) hu ha
theorem sr_h (h : (srRes p a S).R w) : (paRes a.ho S.L).R w := memRes_res h 1 rfl rfl
theorem sr_s (h : (srRes p a S).R w) : (soRes a (S.L.map sortF)).R w := memRes_res h 2 rfl rfl
theorem sr_d (h : (srRes p a S).R w) : (dRes a S.H).R w := memRes_res h 3 rfl rfl
theorem sr_n (h : (srRes p a S).R w) : (nmRes a S.Ns).R w := memRes_res h 4 rfl rfl
theorem rw_cell {t : TypeId} {o : Option Addr} {n cap : Nat} {l : List Value} {g : Nat} (h : (rowRes t 1 o n cap l).R w) (ho : o = some ⟨g, 0, none⟩) {i : Nat} {u : Value} (hu : l[i]? = some u) {ad : Addr} (ha : ad = (⟨g, 0, none⟩ : Addr).add (i * 1)) : w.cell? ad = some u := by
  subst ho; subst ha; rw [Nat.mul_one]; exact rowRes_cell h hu
end
/-- What is known of a search. -/
structure Srch.ok (S : Srch) : Prop where
  n : S.n ≤ 12
  ns : S.Ns.length ≤ 12
  h : S.H.length = S.n
  nm : ∀ x ∈ S.Ns, x.size ≤ maxLen
  p : ∀ p ∈ S.L, p.nm.size ≤ maxLen ∧ i64 p.a
  h64 : ∀ x ∈ S.H, i64 x
theorem peek_val (A : All) (nm : ByteArray) : peekV A nm = .tuple #[.int .i64 ((peek3 A nm).getD 0 0), .int .i64 ((peek3 A nm).getD 1 0), .int .i64 ((peek3 A nm).getD 2 0), .bool (mget A nm).isSome] := by
  unfold peekV peek3
  cases mget A nm <;> rfl
theorem peek3_like {A T : All} (h : Same A T) (nm : ByteArray) : peek3 T nm = peek3 A nm := by
  unfold peek3
  cases hm : mget A nm with
  | none =>
    have hT : mget T nm = none := by
      cases hq : mget T nm with
      | none => rfl
      | some s' => obtain ⟨s, h1, _⟩ := h.1 nm s' hq; rw [hm] at h1; cases h1
    rw [hT]
  | some s =>
    obtain ⟨s', h1, h2⟩ := h.2 nm s hm
    rw [h1]
    simp only [Ctr.core, Prod.mk.injEq] at h2
    dsimp only
    rw [h2.1, h2.2.1, h2.2.2.1]
theorem keyF_like {A T : All} (h : Same A T) (S : Srch) (st : Nat) : keyF S st T = keyF S st A := by
  have : ∀ k j m, kcF S T k j m = kcF S A k j m := fun k j m => by unfold kcF; rw [peek3_like h]
  unfold keyF keyL
  simp only [this]
theorem peek3_i64 {A : All} (ok : AllOk A) (nm : ByteArray) (m : Nat) : i64 ((peek3 A nm).getD m 0) := by
  unfold peek3
  cases hm : mget A nm with
  | none =>
    match m with
    | 0 => exact ⟨by decide, by decide⟩
    | 1 => exact ⟨by decide, by decide⟩
    | 2 => exact ⟨by decide, by decide⟩
    | m + 3 => exact ⟨by simp [List.getD], by simp [List.getD]⟩
  | some s =>
    have := ok _ (mget_some hm)
    obtain ⟨v0, h0, sum, cap, _, _⟩ := this
    dsimp only at v0 h0 sum cap
    match m with
    | 0 => exact ⟨by show _ ≤ s.value; omega, by show s.value ≤ _; omega⟩
    | 1 => exact ⟨by show _ ≤ s.held; omega, by show s.held ≤ _; omega⟩
    | 2 => exact ⟨by show _ ≤ s.limit; omega, by show s.limit ≤ _; omega⟩
    | m + 3 => exact ⟨by simp [List.getD], by simp [List.getD]⟩
theorem key_ok {S : Srch} {st : Nat} {A : All} (ok : AllOk A) (hs : st < 4096) : stateE.ok (keyF S st A) := by
  refine ⟨rfl, ?_⟩
  have hk : ∀ j m, i64 (kcF S A S.Ns.length j m) := fun j m => by
    unfold kcF
    split
    · exact peek3_i64 ok _ _
    · exact ⟨by decide, by decide⟩
  have hst : i64 (st : Int) := ⟨by omega, by omega⟩
  intro v hv
  unfold keyF keyL at hv
  simp only [List.mem_cons, List.not_mem_nil, or_false] at hv
  rcases hv with rfl | hv
  · exact hst
  · rcases hv with rfl | rfl | rfl | rfl | rfl | rfl | rfl | rfl | rfl | rfl | rfl | rfl | rfl | rfl | rfl | rfl | rfl | rfl | rfl | rfl | rfl | rfl | rfl | rfl | rfl | rfl | rfl | rfl | rfl | rfl | rfl | rfl | rfl | rfl | rfl | rfl <;> exact hk _ _

abbrev ansL (R : Option (List Nat) × Vm) : List Int := (R.1.getD []).map fun i : Nat => (i : Int)
abbrev oRes (y : Option Addr × Nat) (l : List Int) : Res := rowRes 3 1 y.1 l.length y.2 (ints l)
theorem nil_post {ρ : Res} {vb : Nat} {V : Vm} {c : Ctx} {w' : World} {ids' : List Nat} {mem' : Mem} (hI : Inv c w' ids' mem') (hS : c.S = ρ.fp) (i : Nat) {t : TypeId} (h0 : nth mem' i = some ⟨t, [.res (vmRes vb V)], true⟩) :
    Post ρ ((vmRes vb V).both (oRes (none, 0) [])) c.w0 w' := by
  refine ⟨hS ▸ hI.frm, ⟨hI.res i h0 rfl, rowRes_nil _ _ _, fun x _ hx => by cases hx⟩, fun x hx => ?_, fun x hx => ?_⟩
  · have hx : x ∈ (vmRes vb V).fp := by
      rcases List.mem_append.1 hx with hx | hx
      · exact hx
      · cases hx
    rw [← hS]
    exact hI.own i _ h0 rfl x (by rw [fpOf_res (r := vmRes vb V) rfl]; exact hx)
  · have hx : x ∈ (vmRes vb V).fp := by
      rcases List.mem_append.1 hx with hx | hx
      · exact hx
      · cases hx
    exact hI.resLt i h0 rfl x hx
theorem both_post {ρ τ : Res} {vb : Nat} {V : Vm} {y : Option Addr × Nat} {l : List Int} {c : Ctx} {w' : World} {ids' : List Nat} {mem' : Mem} (hI : Inv c w' ids' mem') (hS : c.S = ρ.fp) (i j : Nat) (hij : i ≠ j) {t t' : TypeId} (h0 : nth mem' i = some ⟨t, [.res ((vmRes vb V).both τ)], true⟩) (h1 : nth mem' j = some ⟨t', [.res (oRes y l)], true⟩) :
    Post ρ ((vmRes vb V).both (oRes y l)) c.w0 w' := by
  refine ⟨hS ▸ hI.frm, ⟨(hI.res i h0 rfl).1, hI.res j h1 rfl, fun x hx => hI.res_res i j hij h0 rfl h1 rfl x (by simp [Res.both, hx])⟩, fun x hx => ?_, fun x hx => ?_⟩
  · rw [← hS]
    rcases List.mem_append.1 hx with hx | hx
    · exact hI.own i _ h0 rfl x (by rw [fpOf_res (r := (vmRes vb V).both τ) rfl]; simp [Res.both, hx])
    · exact hI.own j _ h1 rfl x (by rw [fpOf_res (r := oRes y l) rfl]; exact hx)
  · rcases List.mem_append.1 hx with hx | hx
    · exact hI.resLt i h0 rfl x (by simp [Res.both, hx])
    · exact hI.resLt j h1 rfl x hx
end
end Go.Proofs.Ytfcbcgjgkleonaa
