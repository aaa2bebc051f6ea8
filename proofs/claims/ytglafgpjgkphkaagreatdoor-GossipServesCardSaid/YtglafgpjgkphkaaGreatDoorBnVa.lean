/- The document's views: New, last, names. The document's views: names. The document's views: Tell, Take. -/
import Derived.Test.YtglafgpjgkphkaaGreatDoorBnGj
namespace Go.Proofs.YtglafgpjgkphkaaGreatDoor
section
set_option maxRecDepth 100000
set_option linter.unusedSimpArgs false
set_option linter.unusedVariables false
set_option maxHeartbeats 4000000
open Go.RowKit

structure Rv where
  me : Int
  n : Int
  All : List (Int × Vw)
abbrev entL (x : Int × Vw) : List Value := .int .i64 x.1 :: x.2.l
theorem ent_len (x : Int × Vw) : (entL x).length = 8 := rfl
abbrev rvMem (o : Option Addr) (cap : Nat) (s : Rv) : Mem := [⟨121, [.int .i64 s.me, .int .i64 s.n, .raw (.slice o s.All.length cap)], true⟩, ⟨141, [.res (rowRes 141 8 o s.All.length cap (s.All.flatMap entL))], true⟩]
def rvRes (p : Nat) (o : Option Addr) (cap : Nat) (s : Rv) : Res := memRes [p, 0] (rvMem o cap s)

/-- It lies there still. -/
theorem rv_at {c : Ctx} {w1 : World} {ids' : List Nat} {mem' : Mem} (hI : Inv c w1 ids' mem') {p : Nat} {o : Option Addr} {cap : Nat} {s : Rv} {q1 q2 : Bool} (i : Nat) (h0 : nth mem' i = some ⟨121, [.int .i64 s.me, .int .i64 s.n, .raw (.slice o s.All.length cap)], q1⟩)
    (h1 : nth mem' (i + 1) = some ⟨141, [.res (rowRes 141 8 o s.All.length cap (s.All.flatMap entL))], q2⟩) (hp : ids'[i]? = some p) : (rvRes p o cap s).R w1 :=
  memRes_here hI [i, i + 1] (.blk h0 hp rfl rfl (.res h1 .nil (fun h => nomatch h)) (fun h => nomatch h)) (by simp)

/-! ### New -/
theorem rvNew_bad {me n : Int} (h : newErr me n ≠ 0) (w : World) : Calls Tryz.prog 27 #[.int .i64 me, .int .i64 n] w fun e w' => e = .returned (.tuple #[.pointer none, .int .i64 (newErr me n)]) ∧ Frm [] w w' := by
  have hI := Inv.nil (P := Tryz.prog) (N := 23) (S := []) (os := []) w
  unfold newErr at h ⊢
  refine calls_sm (cx 23 [] [] w) (vals := [.int .i64 me, .int .i64 n]) mixed Tryz.func27 rfl rfl rfl hI rfl (st rfl ?_); conv => arg 3; whnf
  by_cases h1 : n < 2
  · (repeat ((first | refine n_must rfl ?_ | refine n_chk (drawF_ok (by decide +kernel)) ?_ | refine n_same rfl ?_ | ((first | refine n_must ?_ ?_ | refine n_brT ?_ ?_); (focus (first | (simp [h1]; done) | (simp [h1]; omega) | (simp only [h1]; simp; done)))) | (refine n_brF ?_ ?_; (focus (first | (simp [h1]; done) | (simp [h1]; omega) | (simp only [h1]; simp; done)))) | refine n_must (by (with_reducible refine and_shape ?_) <;> kernel_rfl) ?_); (refine gs ?_)))
    rw [if_pos (.inl h1)]
    exact n_ret0 rfl rfl fun ids' w' hp hI' => ⟨rfl, hI'.frm⟩
  by_cases h2 : 16 < n
  · (repeat ((first | refine n_must rfl ?_ | refine n_chk (drawF_ok (by decide +kernel)) ?_ | refine n_same rfl ?_ | ((first | refine n_must ?_ ?_ | refine n_brT ?_ ?_); (focus (first | (simp [h1, h2]; done) | (simp [h1, h2]; omega) | (simp only [h1, h2]; simp; done)))) | (refine n_brF ?_ ?_; (focus (first | (simp [h1, h2]; done) | (simp [h1, h2]; omega) | (simp only [h1, h2]; simp; done)))) | refine n_must (by (with_reducible refine and_shape ?_) <;> kernel_rfl) ?_); (refine gs ?_)))
    rw [if_pos (.inr h2)]
    exact n_ret0 rfl rfl fun ids' w' hp hI' => ⟨rfl, hI'.frm⟩
  rw [if_neg (by omega)] at h ⊢
  by_cases h3 : me < 0
  · (repeat ((first | refine n_must rfl ?_ | refine n_chk (drawF_ok (by decide +kernel)) ?_ | refine n_same rfl ?_ | ((first | refine n_must ?_ ?_ | refine n_brT ?_ ?_); (focus (first | (simp [h1, h2, h3]; done) | (simp [h1, h2, h3]; omega) | (simp only [h1, h2, h3]; simp; done)))) | (refine n_brF ?_ ?_; (focus (first | (simp [h1, h2, h3]; done) | (simp [h1, h2, h3]; omega) | (simp only [h1, h2, h3]; simp; done)))) | refine n_must (by (with_reducible refine and_shape ?_) <;> kernel_rfl) ?_); (refine gs ?_)))
    rw [if_pos (.inl h3)]
    exact n_ret0 rfl rfl fun ids' w' hp hI' => ⟨rfl, hI'.frm⟩
  by_cases h4 : n ≤ me
  · (repeat ((first | refine n_must rfl ?_ | refine n_chk (drawF_ok (by decide +kernel)) ?_ | refine n_same rfl ?_ | ((first | refine n_must ?_ ?_ | refine n_brT ?_ ?_); (focus (first | (simp [h1, h2, h3, h4]; done) | (simp [h1, h2, h3, h4]; omega) | (simp only [h1, h2, h3, h4]; simp; done)))) | (refine n_brF ?_ ?_; (focus (first | (simp [h1, h2, h3, h4]; done) | (simp [h1, h2, h3, h4]; omega) | (simp only [h1, h2, h3, h4]; simp; done)))) | refine n_must (by (with_reducible refine and_shape ?_) <;> kernel_rfl) ?_); (refine gs ?_)))
    rw [if_pos (.inr h4)]
    exact n_ret0 rfl rfl fun ids' w' hp hI' => ⟨rfl, hI'.frm⟩
  rw [if_neg (by omega)] at h
  exact absurd rfl h
theorem rvNew_good {me n : Int} (h : newErr me n = 0) (w : World) : Calls Tryz.prog 27 #[.int .i64 me, .int .i64 n] w fun e w' => ∃ y : Nat, e = .returned (.tuple #[pV y, .int .i64 0]) ∧ True ∧ FreshR w w' (rvRes y none 0 ⟨me, n, []⟩) := by
  have hI : Inv (cx 23 [] [] w) w [0] [⟨141, [.res (rowRes 141 8 none 0 0 [])], true⟩] := (Inv.nil w).consR (by simp) (rowRes_nil _ _ _) (by simp [rowRes]) (by simp [rowRes])
  obtain ⟨h1, h2, h3, h4⟩ := newErr_0 h
  have q1 : ¬ n < 2 := by omega
  have q2 : ¬ 16 < n := by omega
  have q3 : ¬ me < 0 := by omega
  have q4 : ¬ n ≤ me := by omega
  refine calls_sm (cx 23 [] [] w) (vals := [.int .i64 me, .int .i64 n]) mixed Tryz.func27 rfl rfl rfl hI rfl (st rfl ?_); conv => arg 3; whnf
  (repeat ((first | refine n_must rfl ?_ | refine n_chk (drawF_ok (by decide +kernel)) ?_ | refine n_same rfl ?_ | ((first | refine n_must ?_ ?_ | refine n_brT ?_ ?_); (focus (first | (simp [q1, q2, q3, q4]; done) | (simp [q1, q2, q3, q4]; omega) | (simp only [q1, q2, q3, q4]; simp; done)))) | (refine n_brF ?_ ?_; (focus (first | (simp [q1, q2, q3, q4]; done) | (simp [q1, q2, q3, q4]; omega) | (simp only [q1, q2, q3, q4]; simp; done)))) | refine n_must (by (with_reducible refine and_shape ?_) <;> kernel_rfl) ?_); (refine gs ?_)))
  refine n_ret rfl fun ids' w' hp hI' => ?_
  obtain ⟨p, rfl⟩ := ext1 hp (by rw [hI'.len]; rfl)
  refine ⟨_, rfl, p, rfl, trivial, ?_⟩
  exact fresh_shut hI' rfl [1, 0] (.blk rfl rfl rfl rfl (.res rfl .nil)) (by simp)

/-! ### last -/
def lastStep (r : Int) (nm : ByteArray) (a : Vw) (e : Int × Vw) : Vw := if e.1 = r ∧ e.2.nm = nm then e.2 else a
def lastF (All : List (Int × Vw)) (r : Int) (nm : ByteArray) : Vw := All.foldl (lastStep r nm) Vw.zero
theorem lastF_next {All : List (Int × Vw)} {i : Nat} {e : Int × Vw} (h : All[i]? = some e) (r : Int) (nm : ByteArray) : lastF (All.take (i + 1)) r nm = lastStep r nm (lastF (All.take i) r nm) e := by
  unfold lastF
  rw [List.take_add_one, h]
  simp
theorem aggEnts : aggB Tryz.prog 119 = some false := by kernel_rfl
theorem last_ok {p : Nat} {o : Option Addr} {cap : Nat} {s : Rv} {w : World} (hR : (rvRes p o cap s).R w) (hl : s.All.length ≤ 1000000) (r : Int) (nm : ByteArray) :
    Calls Tryz.prog 67 #[pV p, .int .i64 r, .string nm] w fun e w' => e = .returned (lastF s.All r nm).val ∧ Frm [] w w' := by
  have hI : Inv (cx 51 [] [] w) w [p, 0] (ro (rvMem o cap s)) := memRes_read hR
  refine calls_sm (cx 51 [] [] w) (vals := [.ptr 0 0, .int .i64 r, .str nm]) mixed Tryz.func67 rfl rfl rfl hI rfl (st rfl ?_); conv => arg 3; whnf
  refine gg ?_
  refine n_loop2 rfl fun n1 n2 => ?_
  refine n_loop (σ := Nat) (fun i => [(0, .ptr 0 0), (1, .int .i64 r), (2, .str nm), (6, .ptr 2 0), (7, .ptr 3 0), (8, .int .i64 (i : Nat))]) (fun i => ro (rvMem o cap s) ++ [⟨104, Vw.zero.sv, true⟩, ⟨104, (lastF (s.All.take i) r nm).sv, true⟩]) (fun i => i ≤ s.All.length) (fun i => s.All.length - i) 0 mixed (by omega) (fun _ _ => rfl) rfl (by (repeat (first | exact trivial | refine ⟨⟨rfl, rfl⟩, ?_⟩))) (fun s _ => ⟨by (repeat (first | exact trivial | refine ⟨⟨_, rfl⟩, ?_⟩)), by (repeat (first | exact trivial | refine ⟨⟨_, rfl⟩, ?_⟩))⟩) fun i hi => ?_
  (refine gs ?_)
  by_cases hlt : i < s.All.length
  · have ei : IntKind.i64.wrap ((i : Int) + 1) = ((i + 1 : Nat) : Int) := by rw [w64 (by omega) (by omega)]; simp
    obtain ⟨g, rfl⟩ := rowRes_some' (memRes_res hR 1 rfl rfl) (by omega)
    have hx : s.All[i]? = some s.All[i] := List.getElem?_eq_getElem _
    generalize s.All[i] = e at hx
    have hnx := lastF_next hx r nm
    obtain ⟨er, ev⟩ := e
    refine gw ?_
    refine n_ldI (.int .i64 er) rfl rfl (fun _ w1 _ hI1 => load_cell aggInt (row_at ent_len (hI1.res 1 rfl rfl) hx (j := 0) (by omega) rfl (by simp [add_add]))) ?_
    (refine gs ?_)
    by_cases h1 : er = r
    · (repeat ((first | refine n_must rfl ?_ | refine n_chk (drawF_ok (by decide +kernel)) ?_ | refine n_same rfl ?_ | ((first | refine n_must ?_ ?_ | refine n_brT ?_ ?_); (focus (first | (simp [h1]; done) | (simp [h1]; omega) | (simp only [h1]; simp; done)))) | (refine n_brF ?_ ?_; (focus (first | (simp [h1]; done) | (simp [h1]; omega) | (simp only [h1]; simp; done)))) | refine n_must (by (with_reducible refine and_shape ?_) <;> kernel_rfl) ?_); (refine gs ?_)))
      refine n_ldI (.str ev.nm) rfl rfl (fun _ w1 _ hI1 => load_cell aggStr (row_at ent_len (hI1.res 1 rfl rfl) hx (j := 1) (by omega) rfl (by simp [add_add]))) ?_
      (refine gs ?_)
      by_cases h2 : ev.nm = nm
      · refine gw ?_
        refine n_brT (by rw [bytes_eq]; simp [h2]) ?_
        (refine gs ?_)
        refine gw ?_
        refine n_ldI (.agg ev.sv) rfl rfl (fun _ w1 _ hI1 => load_row (l := ev.l) aggView sizeView fun j u hu => row_at ent_len (hI1.res 1 rfl rfl) hx (j := 1 + j) (by have := (List.getElem?_eq_some_iff.1 hu).1; simp at this; omega) (by rw [Nat.add_comm]; exact hu) (by simp [add_add, Nat.add_assoc])) ?_
        (refine gs ?_)
        refine gw ?_
        have e1 : lastStep r nm (lastF (s.All.take i) r nm) (er, ev) = ev := by rw [lastStep, if_pos ⟨h1, h2⟩]
        refine n_again ⟨i + 1, by omega, by omega, (by (repeat (first | exact trivial | refine ⟨⟨rfl, rfl⟩, ?_⟩ | refine ⟨⟨rfl, congrArg (SV.int .i64) ei⟩, ?_⟩))), ?_⟩
        rw [hnx, e1]; exact ⟨_, rfl⟩
      · refine gw ?_
        refine n_brF (by rw [bytes_eq]; simp [h2]) ?_
        (refine gs ?_)
        refine gw ?_
        have e1 : lastStep r nm (lastF (s.All.take i) r nm) (er, ev) = lastF (s.All.take i) r nm := by rw [lastStep, if_neg fun h => h2 h.2]
        refine n_again ⟨i + 1, by omega, by omega, (by (repeat (first | exact trivial | refine ⟨⟨rfl, rfl⟩, ?_⟩ | refine ⟨⟨rfl, congrArg (SV.int .i64) ei⟩, ?_⟩))), ?_⟩
        rw [hnx, e1]; exact ⟨_, rfl⟩
    · (repeat ((first | refine n_must rfl ?_ | refine n_chk (drawF_ok (by decide +kernel)) ?_ | refine n_same rfl ?_ | ((first | refine n_must ?_ ?_ | refine n_brT ?_ ?_); (focus (first | (simp [h1]; done) | (simp [h1]; omega) | (simp only [h1]; simp; done)))) | (refine n_brF ?_ ?_; (focus (first | (simp [h1]; done) | (simp [h1]; omega) | (simp only [h1]; simp; done)))) | refine n_must (by (with_reducible refine and_shape ?_) <;> kernel_rfl) ?_); (refine gs ?_)))
      have e1 : lastStep r nm (lastF (s.All.take i) r nm) (er, ev) = lastF (s.All.take i) r nm := by rw [lastStep, if_neg fun h => h1 h.1]
      refine n_again ⟨i + 1, by omega, by omega, (by (repeat (first | exact trivial | refine ⟨⟨rfl, rfl⟩, ?_⟩ | refine ⟨⟨rfl, congrArg (SV.int .i64) ei⟩, ?_⟩))), ?_⟩
      rw [hnx, e1]; exact ⟨_, rfl⟩
  · obtain rfl : i = s.All.length := by omega
    rw [List.take_length]
    refine gw ?_
    refine n_exit rfl ?_
    (refine gs ?_)
    refine gw ?_
    exact n_ret0 rfl rfl fun ids' w' hp hI' => ⟨rfl, hI'.frm⟩

abbrev strs (l : List ByteArray) : List Value := l.map Value.string
theorem elemStr : sliceElem Tryz.prog 138 = some 9 := by kernel_rfl
theorem infoStr : (Tryz.prog.info? 9).map (fun i => (i.zero, i.size, i.bytes)) = some (some (.string { data := #[] }), 1, 16) := by kernel_rfl
/-- A name put among rising names. -/
def insStep (nm : ByteArray) (a : List ByteArray × Bool) (x : ByteArray) : List ByteArray × Bool :=
  if a.2 = false ∧ ltS x nm = false then (if x = nm then (a.1 ++ [nm], true) else (a.1 ++ [nm] ++ [x], true)) else (a.1 ++ [x], a.2)
def insT (nm : ByteArray) (out : List ByteArray) : List ByteArray × Bool := out.foldl (insStep nm) ([], false)
def insF (nm : ByteArray) (out : List ByteArray) : List ByteArray := if (insT nm out).2 then (insT nm out).1 else (insT nm out).1 ++ [nm]
theorem insT_next {nm : ByteArray} {out : List ByteArray} {i : Nat} {x : ByteArray} (h : out[i]? = some x) : insT nm (out.take (i + 1)) = insStep nm (insT nm (out.take i)) x := by
  unfold insT
  rw [List.take_add_one, h]
  simp
theorem insT_len (nm : ByteArray) (out : List ByteArray) : (insT nm out).1.length ≤ out.length + (insT nm out).2.toNat := by
  have key : ∀ (l : List ByteArray) (a : List ByteArray × Bool), (l.foldl (insStep nm) a).1.length + a.2.toNat ≤ l.length + a.1.length + (l.foldl (insStep nm) a).2.toNat := by
    intro l
    induction l with
    | nil => intro a; simp
    | cons x l ih =>
      intro a
      have h := ih (insStep nm a x)
      simp only [List.foldl_cons, List.length_cons]
      have h2 : (insStep nm a x).1.length + a.2.toNat ≤ a.1.length + 1 + (insStep nm a x).2.toNat := by
        unfold insStep
        split
        · rename_i h1
          rw [h1.1]
          split <;> simp
        · simp
      omega
  have h := key out ([], false)
  simpa [insT] using h
theorem insF_len (nm : ByteArray) (out : List ByteArray) : (insF nm out).length ≤ out.length + 1 := by
  have h := insT_len nm out
  have : (insT nm out).2.toNat ≤ 1 := by cases (insT nm out).2 <;> simp
  unfold insF
  split
  · omega
  · rename_i hb
    have : (insT nm out).2 = false := by simpa using hb
    rw [this] at h
    simp at h ⊢; exact h
def namStep (r : Int) (a : List ByteArray) (e : Int × Vw) : List ByteArray := if e.1 = r then insF e.2.nm a else a
def namesF (All : List (Int × Vw)) (r : Int) : List ByteArray := All.foldl (namStep r) []
theorem namesF_next {All : List (Int × Vw)} {i : Nat} {e : Int × Vw} (h : All[i]? = some e) (r : Int) : namesF (All.take (i + 1)) r = namStep r (namesF (All.take i) r) e := by
  unfold namesF
  rw [List.take_add_one, h]
  simp
theorem namesF_len (All : List (Int × Vw)) (r : Int) : (namesF All r).length ≤ All.length := by
  have : ∀ (l : List (Int × Vw)) (a : List ByteArray), (l.foldl (namStep r) a).length ≤ a.length + l.length := by
    intro l
    induction l with
    | nil => intro a; simp
    | cons e l ih =>
      intro a
      have h := ih (namStep r a e)
      have : (namStep r a e).length ≤ a.length + 1 := by
        unfold namStep
        split
        · exact insF_len _ _
        · omega
      simp only [List.foldl_cons, List.length_cons]
      omega
  have := this All []
  simpa [namesF] using this

theorem names_ok {p : Nat} {o : Option Addr} {cap : Nat} {s : Rv} {w : World} (hR : (rvRes p o cap s).R w) (hl : s.All.length ≤ 1000000) (r : Int) :
    Calls Tryz.prog 69 #[pV p, .int .i64 r] w fun e w' => ∃ y : Option Addr × Nat, e = .returned (.slice y.1 (namesF s.All r).length y.2) ∧ True ∧ FreshR w w' (rowRes 9 1 y.1 (namesF s.All r).length y.2 (strs (namesF s.All r))) := by
  obtain ⟨it, hit, hparts⟩ := Option.map_eq_some_iff.1 infoStr
  simp only [Prod.mk.injEq] at hparts
  have hI0 : Inv (cx 80 [] [] w) w [p, 0] (ro (rvMem o cap s)) := memRes_read hR
  have hI : Inv (cx 80 [] [] w) w [p, 0, 0, 0] (ro (rvMem o cap s) ++ [⟨9, [.res (rowRes 9 1 none 0 0 [])], true⟩, ⟨9, [.res Res.none], true⟩]) :=
    (hI0.consR (by simp [rowRes]) (rowRes_nil _ _ _) (by simp [rowRes]) (by simp [rowRes])).consR (r := Res.none) (by simp [Res.none]) trivial (by simp [Res.none]) (by simp [Res.none])
  refine calls_sm (cx 80 [] [] w) (vals := [.ptr 0 0, .int .i64 r]) mixed Tryz.func69 rfl rfl rfl hI rfl (st rfl ?_); conv => arg 3; whnf
  refine gg ?_
  refine n_loopM (σ := Nat × Option Addr × Nat) (fun t => [(0, .ptr 0 0), (1, .int .i64 r), (5, .raw (.slice t.2.1 (namesF (s.All.take t.1) r).length t.2.2)), (6, .int .i64 (t.1 : Nat))]) (fun t => ro (rvMem o cap s) ++ [⟨9, [.res (rowRes 9 1 t.2.1 (namesF (s.All.take t.1) r).length t.2.2 (strs (namesF (s.All.take t.1) r)))], true⟩, ⟨9, [.res Res.none], true⟩]) (fun t => t.1 ≤ s.All.length ∧ (0 < (namesF (s.All.take t.1) r).length → ∃ g, t.2.1 = some ⟨g, 0, none⟩)) (fun t => s.All.length - t.1) (0, none, 0) mixed (by simp [namesF]) (fun _ _ => rfl) (fun w h => h) rfl (by (repeat (first | exact trivial | refine ⟨⟨rfl, rfl⟩, ?_⟩))) (fun s _ => ⟨by (repeat (first | exact trivial | refine ⟨⟨_, rfl⟩, ?_⟩)), by (repeat (first | exact trivial | refine ⟨⟨_, rfl⟩, ?_⟩))⟩) fun t hi => ?_
  obtain ⟨i, on, cn⟩ := t
  obtain ⟨hi, hon⟩ := hi
  dsimp only at hi hon ⊢
  (refine gs ?_)
  by_cases hlt : i < s.All.length
  · have ei : IntKind.i64.wrap ((i : Int) + 1) = ((i + 1 : Nat) : Int) := by rw [w64 (by omega) (by omega)]; simp
    obtain ⟨g, rfl⟩ := rowRes_some' (memRes_res hR 1 rfl rfl) (by omega)
    have hx : s.All[i]? = some s.All[i] := List.getElem?_eq_getElem _
    generalize s.All[i] = e at hx
    have hnx := namesF_next hx r
    have hol : (namesF (s.All.take i) r).length ≤ 1000000 := by
      have := namesF_len (s.All.take i) r
      rw [List.length_take] at this
      omega
    generalize namesF (s.All.take i) r = out at hnx hol hon
    obtain ⟨er, ev⟩ := e
    refine gw ?_
    refine n_ldI (.int .i64 er) rfl rfl (fun _ w1 _ hI1 => load_cell aggInt (row_at ent_len (hI1.res 1 rfl rfl) hx (j := 0) (by omega) rfl (by simp [add_add]))) ?_
    (refine gs ?_)
    by_cases h1 : er = r
    · have e1 : namStep r out (er, ev) = insF ev.nm out := by rw [namStep, if_pos h1]
      rw [e1] at hnx
      generalize hnm : ev.nm = nm at hnx
      (repeat ((first | refine n_must rfl ?_ | refine n_chk (drawF_ok (by decide +kernel)) ?_ | refine n_same rfl ?_ | ((first | refine n_must ?_ ?_ | refine n_brT ?_ ?_); (focus (first | (simp [h1]; done) | (simp [h1]; omega) | (simp only [h1]; simp; done)))) | (refine n_brF ?_ ?_; (focus (first | (simp [h1]; done) | (simp [h1]; omega) | (simp only [h1]; simp; done)))) | refine n_must (by (with_reducible refine and_shape ?_) <;> kernel_rfl) ?_); (refine gs ?_)))
      refine n_ldI (.str nm) rfl rfl (fun _ w1 _ hI1 => load_cell aggStr (row_at ent_len (hI1.res 1 rfl rfl) hx (j := 1) (by omega) (by rw [← hnm]; rfl) (by simp [add_add]))) ?_
      (refine gs ?_)
      refine gw ?_
      refine n_loopI (ro (rvMem (some ⟨g, 0, none⟩) cap s) ++ [⟨9, [.res (rowRes 9 1 on out.length cn (strs out))], true⟩, ⟨9, [.res (rowRes 9 1 none 0 0 [])], true⟩]) (fun ids' w1 _ hI1 => hI1.retell 3 (ρ' := rowRes 9 1 none 0 0 []) rfl rfl (rowRes_nil _ _ _) rfl) ?_
      refine n_loop (σ := Nat × Option Addr × Nat) (fun t => [(0, .ptr 0 0), (1, .int .i64 r), (5, .raw (.slice on out.length cn)), (6, .int .i64 (i : Nat)), (7, .str nm), (8, .raw (.slice t.2.1 (insT nm (out.take t.1)).1.length t.2.2)), (9, litB (insT nm (out.take t.1)).2), (10, .int .i64 (t.1 : Nat))]) (fun t => ro (rvMem (some ⟨g, 0, none⟩) cap s) ++ [⟨9, [.res (rowRes 9 1 on out.length cn (strs out))], true⟩, ⟨9, [.res (rowRes 9 1 t.2.1 (insT nm (out.take t.1)).1.length t.2.2 (strs (insT nm (out.take t.1)).1))], true⟩]) (fun t => t.1 ≤ out.length) (fun t => out.length - t.1) (0, none, 0) mixed (by simp) (fun _ _ => rfl) rfl (by (repeat (first | exact trivial | refine ⟨⟨rfl, rfl⟩, ?_⟩))) (fun t _ => ⟨by cases h : (insT nm (out.take t.1)).2 <;> (repeat (first | exact trivial | refine ⟨⟨_, rfl⟩, ?_⟩)), by (repeat (first | exact trivial | refine ⟨⟨_, rfl⟩, ?_⟩))⟩) fun t hk => ?_
      · obtain ⟨k, ol, cl⟩ := t
        dsimp only at hk ⊢
        have htl := insT_len nm (out.take k)
        rw [List.length_take] at htl
        by_cases hkl : k < out.length
        · have ek : IntKind.i64.wrap ((k : Int) + 1) = ((k + 1 : Nat) : Int) := by rw [w64 (by omega) (by omega)]; simp
          have hy : out[k]? = some out[k] := List.getElem?_eq_getElem _
          generalize out[k] = y at hy
          have hins := insT_next (nm := nm) hy
          obtain ⟨g2, rfl⟩ := hon (by omega)
          generalize insT nm (out.take k) = T at hins htl
          obtain ⟨l, b⟩ := T
          cases b with
          | true =>
            have hstp : insStep nm (l, true) y = (l ++ [y], true) := by unfold insStep; rw [if_neg (by simp)]
            (refine gs ?_)
            refine gw ?_
            refine n_ldI (.str y) rfl rfl (fun _ w1 _ hI1 => load_cell aggStr (by have := rowRes_cell (hI1.res 2 rfl rfl) (j := k) (u := .string y) (by simp [strs, hy]); simpa using this)) ?_
            (refine gs ?_)
            refine gw ?_
            refine n_build1 rfl rfl elemStr rfl rfl rfl rfl rfl rfl rfl rfl rfl ?_
            (refine gs ?_)
            refine gw ?_
            refine n_append (nv := [.string y]) 3 rfl rfl elemStr hit hparts.1 hparts.2.1 hparts.2.2 rfl (by omega) rfl rfl rfl rfl rfl rfl (by omega) (by simp [Value.oneCell']) (by simp at htl ⊢; omega) (by simp at htl ⊢; omega) (show strs (l) ++ [Value.string y] = strs (l ++ [y]) by simp) fun g' ca' => ?_
            rw [show (l).length + 1 = (l ++ [y]).length by simp]
            (refine gs ?_)
            refine gw ?_
            rw [hstp] at hins
            refine n_again ⟨(k + 1, some ⟨g', 0, none⟩, ca'), by dsimp only; omega, by dsimp only; omega, ?_, ?_⟩
            · dsimp only; rw [hins]; exact (by (repeat (first | exact trivial | refine ⟨⟨rfl, rfl⟩, ?_⟩ | refine ⟨⟨rfl, congrArg (SV.int .i64) ek⟩, ?_⟩)))
            · dsimp only; rw [hins]; exact ⟨_, rfl⟩
          | false =>
            cases hlt2 : ltS y nm with
            | true =>
              have hlt2' : Op.bytesLess y.toList nm.toList = true := hlt2
              have hstp : insStep nm (l, false) y = (l ++ [y], false) := by unfold insStep; rw [if_neg (by simp [hlt2])]
              (refine gs ?_)
              refine gw ?_
              refine n_ldI (.str y) rfl rfl (fun _ w1 _ hI1 => load_cell aggStr (by have := rowRes_cell (hI1.res 2 rfl rfl) (j := k) (u := .string y) (by simp [strs, hy]); simpa using this)) ?_
              (refine gs ?_)
              (repeat ((first | refine n_must rfl ?_ | refine n_chk (drawF_ok (by decide +kernel)) ?_ | refine n_same rfl ?_ | ((first | refine n_must ?_ ?_ | refine n_brT ?_ ?_); (focus (first | (simp [hlt2']; done) | (simp [hlt2']; omega) | (simp only [hlt2']; simp; done)))) | (refine n_brF ?_ ?_; (focus (first | (simp [hlt2']; done) | (simp [hlt2']; omega) | (simp only [hlt2']; simp; done)))) | refine n_must (by (with_reducible refine and_shape ?_) <;> kernel_rfl) ?_); (refine gs ?_)))
              refine n_ldI (.str y) rfl rfl (fun _ w1 _ hI1 => load_cell aggStr (by have := rowRes_cell (hI1.res 2 rfl rfl) (j := k) (u := .string y) (by simp [strs, hy]); simpa using this)) ?_
              (refine gs ?_)
              refine gw ?_
              refine n_build1 rfl rfl elemStr rfl rfl rfl rfl rfl rfl rfl rfl rfl ?_
              (refine gs ?_)
              refine gw ?_
              refine n_append (nv := [.string y]) 3 rfl rfl elemStr hit hparts.1 hparts.2.1 hparts.2.2 rfl (by omega) rfl rfl rfl rfl rfl rfl (by omega) (by simp [Value.oneCell']) (by simp at htl ⊢; omega) (by simp at htl ⊢; omega) (show strs (l) ++ [Value.string y] = strs (l ++ [y]) by simp) fun g' ca' => ?_
              rw [show (l).length + 1 = (l ++ [y]).length by simp]
              (refine gs ?_)
              refine gw ?_
              rw [hstp] at hins
              refine n_again ⟨(k + 1, some ⟨g', 0, none⟩, ca'), by dsimp only; omega, by dsimp only; omega, ?_, ?_⟩
              · dsimp only; rw [hins]; exact (by (repeat (first | exact trivial | refine ⟨⟨rfl, rfl⟩, ?_⟩ | refine ⟨⟨rfl, congrArg (SV.int .i64) ek⟩, ?_⟩)))
              · dsimp only; rw [hins]; exact ⟨_, rfl⟩
            | false =>
              have hlt2' : Op.bytesLess y.toList nm.toList = false := hlt2
              (refine gs ?_)
              refine gw ?_
              refine n_ldI (.str y) rfl rfl (fun _ w1 _ hI1 => load_cell aggStr (by have := rowRes_cell (hI1.res 2 rfl rfl) (j := k) (u := .string y) (by simp [strs, hy]); simpa using this)) ?_
              (refine gs ?_)
              (repeat ((first | refine n_must rfl ?_ | refine n_chk (drawF_ok (by decide +kernel)) ?_ | refine n_same rfl ?_ | ((first | refine n_must ?_ ?_ | refine n_brT ?_ ?_); (focus (first | (simp [hlt2']; done) | (simp [hlt2']; omega) | (simp only [hlt2']; simp; done)))) | (refine n_brF ?_ ?_; (focus (first | (simp [hlt2']; done) | (simp [hlt2']; omega) | (simp only [hlt2']; simp; done)))) | refine n_must (by (with_reducible refine and_shape ?_) <;> kernel_rfl) ?_); (refine gs ?_)))
              refine n_build1 rfl rfl elemStr rfl rfl rfl rfl rfl rfl rfl rfl rfl ?_
              (refine gs ?_)
              refine gw ?_
              refine n_append (nv := [.string nm]) 3 rfl rfl elemStr hit hparts.1 hparts.2.1 hparts.2.2 rfl (by omega) rfl rfl rfl rfl rfl rfl (by omega) (by simp [Value.oneCell']) (by simp at htl ⊢; omega) (by simp at htl ⊢; omega) (show strs (l) ++ [Value.string nm] = strs (l ++ [nm]) by simp) fun g' ca' => ?_
              rw [show (l).length + 1 = (l ++ [nm]).length by simp]
              (refine gs ?_)
              refine gw ?_
              refine n_ldI (.str y) rfl rfl (fun _ w1 _ hI1 => load_cell aggStr (by have := rowRes_cell (hI1.res 2 rfl rfl) (j := k) (u := .string y) (by simp [strs, hy]); simpa using this)) ?_
              (refine gs ?_)
              refine gw ?_
              by_cases he : y = nm
              · have hstp : insStep nm (l, false) y = (l ++ [nm], true) := by unfold insStep; rw [if_pos ⟨rfl, hlt2⟩, if_pos he]
                refine n_brT (by rw [bytes_eq]; simp [he]) ?_
                (refine gs ?_)
                refine gw ?_
                rw [hstp] at hins
                refine n_again ⟨(k + 1, some ⟨g', 0, none⟩, ca'), by dsimp only; omega, by dsimp only; omega, ?_, ?_⟩
                · dsimp only; rw [hins]; exact (by (repeat (first | exact trivial | refine ⟨⟨rfl, rfl⟩, ?_⟩ | refine ⟨⟨rfl, congrArg (SV.int .i64) ek⟩, ?_⟩)))
                · dsimp only; rw [hins]; exact ⟨_, rfl⟩
              · have hstp : insStep nm (l, false) y = (l ++ [nm] ++ [y], true) := by unfold insStep; rw [if_pos ⟨rfl, hlt2⟩, if_neg he]
                refine n_brF (by rw [bytes_eq]; simp [he]) ?_
                (refine gs ?_)
                refine gw ?_
                refine n_ldI (.str y) rfl rfl (fun _ w1 _ hI1 => load_cell aggStr (by have := rowRes_cell (hI1.res 2 rfl rfl) (j := k) (u := .string y) (by simp [strs, hy]); simpa using this)) ?_
                (refine gs ?_)
                refine gw ?_
                refine n_build1 rfl rfl elemStr rfl rfl rfl rfl rfl rfl rfl rfl rfl ?_
                (refine gs ?_)
                refine gw ?_
                refine n_append (nv := [.string y]) 3 rfl rfl elemStr hit hparts.1 hparts.2.1 hparts.2.2 rfl (by omega) rfl rfl rfl rfl rfl rfl (by omega) (by simp [Value.oneCell']) (by simp at htl ⊢; omega) (by simp at htl ⊢; omega) (show strs (l ++ [nm]) ++ [Value.string y] = strs (l ++ [nm] ++ [y]) by simp) fun g' ca' => ?_
                rw [show (l ++ [nm]).length + 1 = (l ++ [nm] ++ [y]).length by simp]
                (refine gs ?_)
                refine gw ?_
                rw [hstp] at hins
                refine n_again ⟨(k + 1, some ⟨g', 0, none⟩, ca'), by dsimp only; omega, by dsimp only; omega, ?_, ?_⟩
                · dsimp only; rw [hins]; exact (by (repeat (first | exact trivial | refine ⟨⟨rfl, rfl⟩, ?_⟩ | refine ⟨⟨rfl, congrArg (SV.int .i64) ek⟩, ?_⟩)))
                · dsimp only; rw [hins]; exact ⟨_, rfl⟩
        · obtain rfl : k = out.length := by omega
          rw [List.take_length] at htl ⊢
          have hF : insF nm out = if (insT nm out).2 then (insT nm out).1 else (insT nm out).1 ++ [nm] := rfl
          generalize insT nm out = T at htl hF
          obtain ⟨l, b⟩ := T
          have hi' : i + 1 ≤ s.All.length := by omega
          cases b with
          | true =>
            rw [if_pos rfl] at hF
            (refine gs ?_)
            refine gw ?_
            refine n_exit rfl ?_
            (refine gs ?_)
            refine gw ?_
            refine n_againM fun ids' w' hp hI' => ?_
            have hI2 := hI'.moveR 2 3 (by decide) rfl rfl rfl rfl rfl rfl
            refine ⟨(i + 1, ol, cl), ⟨by dsimp only; omega, ?_⟩, by dsimp only; omega, ?_, ?_⟩
            · dsimp only; rw [hnx, hF]; exact fun h0 => rowRes_some' (hI2.res 2 rfl rfl) h0
            · dsimp only; rw [hnx, hF]; exact (by (repeat (first | exact trivial | refine ⟨⟨rfl, rfl⟩, ?_⟩ | refine ⟨⟨rfl, congrArg (SV.int .i64) ei⟩, ?_⟩)))
            · dsimp only; rw [hnx, hF]; exact ⟨_, hI2⟩
          | false =>
            rw [if_neg (by simp)] at hF
            (refine gs ?_)
            refine gw ?_
            refine n_exit rfl ?_
            (refine gs ?_)
            refine gw ?_
            refine n_build1 rfl rfl elemStr rfl rfl rfl rfl rfl rfl rfl rfl rfl ?_
            (refine gs ?_)
            refine gw ?_
            refine n_append (nv := [.string nm]) 3 rfl rfl elemStr hit hparts.1 hparts.2.1 hparts.2.2 rfl (by omega) rfl rfl rfl rfl rfl rfl (by omega) (by simp [Value.oneCell']) (by simp at htl ⊢; omega) (by simp at htl ⊢; omega) (show strs (l) ++ [Value.string nm] = strs (l ++ [nm]) by simp) fun g' ca' => ?_
            rw [show (l).length + 1 = (l ++ [nm]).length by simp]
            (refine gs ?_)
            refine gw ?_
            refine n_againM fun ids' w' hp hI' => ?_
            have hI2 := hI'.moveR 2 3 (by decide) rfl rfl rfl rfl rfl rfl
            refine ⟨(i + 1, (some ⟨g', 0, none⟩), ca'), ⟨by dsimp only; omega, ?_⟩, by dsimp only; omega, ?_, ?_⟩
            · dsimp only; rw [hnx, hF]; exact fun h0 => rowRes_some' (hI2.res 2 rfl rfl) h0
            · dsimp only; rw [hnx, hF]; exact (by (repeat (first | exact trivial | refine ⟨⟨rfl, rfl⟩, ?_⟩ | refine ⟨⟨rfl, congrArg (SV.int .i64) ei⟩, ?_⟩)))
            · dsimp only; rw [hnx, hF]; exact ⟨_, hI2⟩
    · have e1 : namStep r out (er, ev) = out := by rw [namStep, if_neg h1]
      rw [e1] at hnx
      (repeat ((first | refine n_must rfl ?_ | refine n_chk (drawF_ok (by decide +kernel)) ?_ | refine n_same rfl ?_ | ((first | refine n_must ?_ ?_ | refine n_brT ?_ ?_); (focus (first | (simp [h1]; done) | (simp [h1]; omega) | (simp only [h1]; simp; done)))) | (refine n_brF ?_ ?_; (focus (first | (simp [h1]; done) | (simp [h1]; omega) | (simp only [h1]; simp; done)))) | refine n_must (by (with_reducible refine and_shape ?_) <;> kernel_rfl) ?_); (refine gs ?_)))
      refine n_againM fun ids' w' hp hI' => ⟨(i + 1, on, cn), ⟨by dsimp only; omega, by dsimp only; rw [hnx]; exact hon⟩, by dsimp only; omega, ?_, ?_⟩
      · dsimp only; rw [hnx]; exact (by (repeat (first | exact trivial | refine ⟨⟨rfl, rfl⟩, ?_⟩ | refine ⟨⟨rfl, congrArg (SV.int .i64) ei⟩, ?_⟩)))
      · dsimp only; rw [hnx]; exact ⟨_, hI'⟩
  · obtain rfl : i = s.All.length := by omega
    rw [List.take_length]
    refine gw ?_
    refine n_exitM rfl ?_
    (refine gs ?_)
    refine gw ?_
    exact n_ret0 rfl rfl fun ids' w' hp hI' => ⟨⟨on, cn⟩, rfl, trivial, hI'.frm, hI'.res 2 rfl rfl, hI'.res_new 2 rfl rfl rfl (by simp), hI'.resLt 2 rfl rfl⟩
end
section
set_option maxRecDepth 100000
set_option linter.unusedSimpArgs false
set_option linter.unusedVariables false
set_option maxHeartbeats 4000000
open Go.RowKit

theorem elemEnt : sliceElem Tryz.prog 119 = some 141 := by kernel_rfl
theorem infoEnt : (Tryz.prog.info? 141).map (fun i => (i.zero, i.size, i.bytes)) = some (some (.agg #[.int .i64 0, .string { data := #[] }, .int .i64 0, .int .i64 0, .int .i64 0, .int .i64 0, .int .i64 0, .int .i64 0]), 8, 72) := by kernel_rfl
def Rv.tell (s : Rv) (x0 : Vw) : Rv × Int :=
  if rightB x0 = false then (s, 1) else if (lastF s.All s.me x0.nm).ver = 0 ∧ 64 ≤ (namesF s.All s.me).length then (s, 102) else
  if 0 < (lastF s.All s.me x0.nm).ver ∧ (lastF s.All s.me x0.nm).cap = x0.cap ∧ (lastF s.All s.me x0.nm).rc = x0.rc ∧ (lastF s.All s.me x0.nm).d = x0.d ∧ (lastF s.All s.me x0.nm).u = x0.u ∧ (lastF s.All s.me x0.nm).h = x0.h then (s, 0) else
  ({ s with All := s.All ++ [(s.me, { x0 with ver := wr ((lastF s.All s.me x0.nm).ver + 1) })] }, 0)

theorem rTell_ok {p : Nat} {o : Option Addr} {cap : Nat} {s : Rv} {w : World} (hR : (rvRes p o cap s).R w) (hl : s.All.length ≤ 100000) (nm : ByteArray) (cp rc d u h : Int) :
    Calls Tryz.prog 56 #[pV p, .string nm, .int .i64 cp, .int .i64 rc, .agg #[.int .i64 d, .int .i64 u], .int .i64 h] w fun e w' => ∃ y : Option Addr × Nat, e = .returned (.int .i64 (s.tell ⟨nm, cp, rc, 1, d, u, h⟩).2) ∧ True ∧ Post (rvRes p o cap s) (rvRes p y.1 y.2 (s.tell ⟨nm, cp, rc, 1, d, u, h⟩).1) w w' := by
  obtain ⟨it, hit, hparts⟩ := Option.map_eq_some_iff.1 infoEnt
  simp only [Prod.mk.injEq] at hparts
  have hI : Inv (cx 92 [(11, .of [(0, []), (1, []), (2, []), (3, []), (4, []), (5, []), (6, []), (7, []), (8, []), (9, []), (10, []), (11, [4]), (12, []), (13, []), (14, []), (15, [])])] (rvRes p o cap s).fp w) w [p, 0] (rvMem o cap s) := memRes_open hR fun x hx => hx
  refine calls_sm (cx 92 [(11, .of [(0, []), (1, []), (2, []), (3, []), (4, []), (5, []), (6, []), (7, []), (8, []), (9, []), (10, []), (11, [4]), (12, []), (13, []), (14, []), (15, [])])] (rvRes p o cap s).fp w) (vals := [.ptr 0 0, .str nm, .int .i64 cp, .int .i64 rc, .agg [.int .i64 d, .int .i64 u], .int .i64 h]) mixed Tryz.func56 rfl rfl rfl hI rfl (st rfl ?_); conv => arg 3; whnf
  refine gg ?_
  refine n_sameP (.bool (rightB ⟨nm, cp, rc, 1, d, u, h⟩)) rfl rfl rfl (fun _ w1 hp1 hI1 => rRight_ok ⟨nm, cp, rc, 1, d, u, h⟩ w1) ?_; (refine gs ?_)
  refine gg ?_
  by_cases hr : rightB ⟨nm, cp, rc, 1, d, u, h⟩ = false
  · (repeat ((first | refine n_must rfl ?_ | refine n_chk (drawF_ok (by decide +kernel)) ?_ | refine n_same rfl ?_ | ((first | refine n_must ?_ ?_ | refine n_brT ?_ ?_); (focus (first | (simp [hr]; done) | (simp [hr]; omega) | (simp only [hr]; simp; done)))) | (refine n_brF ?_ ?_; (focus (first | (simp [hr]; done) | (simp [hr]; omega) | (simp only [hr]; simp; done)))) | refine n_must (by (with_reducible refine and_shape ?_) <;> kernel_rfl) ?_); (refine gs ?_)))
    have e : s.tell ⟨nm, cp, rc, 1, d, u, h⟩ = (s, 1) := by rw [Rv.tell, if_pos hr]
    rw [e]
    exact n_ret0 rfl rfl fun ids' w' hp hI' => ⟨(o, cap), rfl, trivial, post_shut hI' rfl [0, 1] (.blk rfl (pre_at hp rfl) rfl rfl (.res rfl .nil)) (by simp)⟩
  · have hr1 : rightB ⟨nm, cp, rc, 1, d, u, h⟩ = true := by simpa using hr
    (repeat ((first | refine n_must rfl ?_ | refine n_chk (drawF_ok (by decide +kernel)) ?_ | refine n_same rfl ?_ | ((first | refine n_must ?_ ?_ | refine n_brT ?_ ?_); (focus (first | (simp [hr1]; done) | (simp [hr1]; omega) | (simp only [hr1]; simp; done)))) | (refine n_brF ?_ ?_; (focus (first | (simp [hr1]; done) | (simp [hr1]; omega) | (simp only [hr1]; simp; done)))) | refine n_must (by (with_reducible refine and_shape ?_) <;> kernel_rfl) ?_); (refine gs ?_)))
    refine n_sameP (.agg (lastF s.All s.me nm).sv) rfl rfl rfl (fun _ w1 hp1 hI1 => last_ok (rv_at hI1 0 rfl rfl (pre_at hp1 rfl)) (by omega) s.me nm) ?_; (refine gs ?_)
    have htell : s.tell ⟨nm, cp, rc, 1, d, u, h⟩ = if (lastF s.All s.me nm).ver = 0 ∧ 64 ≤ (namesF s.All s.me).length then (s, 102) else
        if 0 < (lastF s.All s.me nm).ver ∧ (lastF s.All s.me nm).cap = cp ∧ (lastF s.All s.me nm).rc = rc ∧ (lastF s.All s.me nm).d = d ∧ (lastF s.All s.me nm).u = u ∧ (lastF s.All s.me nm).h = h then (s, 0) else
        ({ s with All := s.All ++ [(s.me, ⟨nm, cp, rc, wr ((lastF s.All s.me nm).ver + 1), d, u, h⟩)] }, 0) := by rw [Rv.tell, if_neg hr]
    generalize lastF s.All s.me nm = was at htell ⊢
    refine gw ?_
    by_cases h0 : was.ver = 0
    · (repeat ((first | refine n_must rfl ?_ | refine n_chk (drawF_ok (by decide +kernel)) ?_ | refine n_same rfl ?_ | ((first | refine n_must ?_ ?_ | refine n_brT ?_ ?_); (focus (first | (simp [h0]; done) | (simp [h0]; omega) | (simp only [h0]; simp; done)))) | (refine n_brF ?_ ?_; (focus (first | (simp [h0]; done) | (simp [h0]; omega) | (simp only [h0]; simp; done)))) | refine n_must (by (with_reducible refine and_shape ?_) <;> kernel_rfl) ?_); (refine gs ?_)))
      refine n_call3 rfl fun b1 b2 b3 => ?_
      refine n_callN (fun y : Option Addr × Nat => rowRes 9 1 y.1 (namesF s.All s.me).length y.2 (strs (namesF s.All s.me))) 9 (fun y => .raw (.slice y.1 (namesF s.All s.me).length y.2)) (fun y => .slice y.1 (namesF s.All s.me).length y.2) (fun _ => True) rfl rfl rfl (fun _ => rfl) (fun w1 hI1 => names_ok (rv_at hI1 0 rfl rfl rfl) (by omega) s.me) ?_
      rintro ⟨on, cn⟩ _ hnn
      (refine gs ?_)
      by_cases h64 : 64 ≤ (namesF s.All s.me).length
      · (repeat ((first | refine n_must rfl ?_ | refine n_chk (drawF_ok (by decide +kernel)) ?_ | refine n_same rfl ?_ | ((first | refine n_must ?_ ?_ | refine n_brT ?_ ?_); (focus (first | (simp [h64]; done) | (simp [h64]; omega) | (simp only [h64]; simp; done)))) | (refine n_brF ?_ ?_; (focus (first | (simp [h64]; done) | (simp [h64]; omega) | (simp only [h64]; simp; done)))) | refine n_must (by (with_reducible refine and_shape ?_) <;> kernel_rfl) ?_); (refine gs ?_)))
        rw [if_pos ⟨h0, h64⟩] at htell
        rw [htell]
        exact n_ret0 rfl rfl fun ids' w' hp hI' => ⟨(o, cap), rfl, trivial, post_shut hI' rfl [0, 1] (.blk rfl (pre_at hp rfl) rfl rfl (.res rfl .nil)) (by simp)⟩
      · (repeat ((first | refine n_must rfl ?_ | refine n_chk (drawF_ok (by decide +kernel)) ?_ | refine n_same rfl ?_ | ((first | refine n_must ?_ ?_ | refine n_brT ?_ ?_); (focus (first | (simp [h64, h0]; done) | (simp [h64, h0]; omega) | (simp only [h64, h0]; simp; done)))) | (refine n_brF ?_ ?_; (focus (first | (simp [h64, h0]; done) | (simp [h64, h0]; omega) | (simp only [h64, h0]; simp; done)))) | refine n_must (by (with_reducible refine and_shape ?_) <;> kernel_rfl) ?_); (refine gs ?_)))
        rw [if_neg (by omega), if_neg (by omega)] at htell
        rw [htell]
        refine n_build1 rfl rfl elemEnt rfl rfl rfl rfl rfl rfl rfl rfl rfl ?_
        (refine gs ?_)
        refine gw ?_
        refine n_append (nv := entL (s.me, ⟨nm, cp, rc, wr (was.ver + 1), d, u, h⟩)) 1 rfl rfl elemEnt hit hparts.1 hparts.2.1 hparts.2.2 rfl (by omega) rfl rfl rfl rfl rfl rfl (by omega) (by simp [Value.oneCell']) (by omega) (by omega) (show s.All.flatMap entL ++ entL (s.me, ⟨nm, cp, rc, wr (was.ver + 1), d, u, h⟩) = (s.All ++ [(s.me, (⟨nm, cp, rc, wr (was.ver + 1), d, u, h⟩ : Vw))]).flatMap entL by simp) fun g' ca' => ?_
        rw [show s.All.length + 1 = (s.All ++ [(s.me, (⟨nm, cp, rc, wr (was.ver + 1), d, u, h⟩ : Vw))]).length by simp]
        (refine gs ?_)
        refine gw ?_
        exact n_ret0 rfl rfl fun ids' w' hp hI' => ⟨(some ⟨g', 0, none⟩, ca'), rfl, trivial, post_shut hI' rfl [0, 1] (.blk rfl (pre_at hp rfl) rfl rfl (.res rfl .nil)) (by simp)⟩
    · (repeat ((first | refine n_must rfl ?_ | refine n_chk (drawF_ok (by decide +kernel)) ?_ | refine n_same rfl ?_ | ((first | refine n_must ?_ ?_ | refine n_brT ?_ ?_); (focus (first | (simp [h0]; done) | (simp [h0]; omega) | (simp only [h0]; simp; done)))) | (refine n_brF ?_ ?_; (focus (first | (simp [h0]; done) | (simp [h0]; omega) | (simp only [h0]; simp; done)))) | refine n_must (by (with_reducible refine and_shape ?_) <;> kernel_rfl) ?_); (refine gs ?_)))
      rw [if_neg (by omega)] at htell
      by_cases hE : 0 < was.ver ∧ was.cap = cp ∧ was.rc = rc ∧ was.d = d ∧ was.u = u ∧ was.h = h
      · obtain ⟨e1, e2, e3, e4, e5, e6⟩ := hE
        rw [if_pos ⟨e1, e2, e3, e4, e5, e6⟩] at htell
        rw [htell]
        (repeat ((first | refine n_must rfl ?_ | refine n_chk (drawF_ok (by decide +kernel)) ?_ | refine n_same rfl ?_ | ((first | refine n_must ?_ ?_ | refine n_brT ?_ ?_); (focus (first | (simp [e1, e2, e3, e4, e5, e6]; done) | (simp [e1, e2, e3, e4, e5, e6]; omega) | (simp only [e1, e2, e3, e4, e5, e6]; simp; done)))) | (refine n_brF ?_ ?_; (focus (first | (simp [e1, e2, e3, e4, e5, e6]; done) | (simp [e1, e2, e3, e4, e5, e6]; omega) | (simp only [e1, e2, e3, e4, e5, e6]; simp; done)))) | refine n_must (by (with_reducible refine and_shape ?_) <;> kernel_rfl) ?_); (refine gs ?_)))
        exact n_ret0 rfl rfl fun ids' w' hp hI' => ⟨(o, cap), rfl, trivial, post_shut hI' rfl [0, 1] (.blk rfl (pre_at hp rfl) rfl rfl (.res rfl .nil)) (by simp)⟩
      · rw [if_neg hE] at htell
        rw [htell]
        repeat' (first | (refine n_must rfl ?_; (refine gs ?_)) | (refine n_must (by (with_reducible refine and_shape ?_) <;> kernel_rfl) ?_; (refine gs ?_)) | (refine n_chk (drawF_ok (by decide +kernel)) ?_; (refine gs ?_)) | (refine n_same rfl ?_; (refine gs ?_)) | (refine n_br (fun hbr => ?_) (fun hbr => ?_) <;> simp only [decide_eq_true_eq, decide_eq_false_iff_not, beq_iff_eq, Bool.and_eq_true, Bool.and_eq_false_iff, beq_eq_false_iff_ne, ne_eq, and_true, or_false, Bool.true_eq_false] at hbr <;> (refine gs ?_)))
        all_goals first | (exfalso; omega) | skip
        all_goals
          refine n_build1 rfl rfl elemEnt rfl rfl rfl rfl rfl rfl rfl rfl rfl ?_
          (refine gs ?_)
          refine gw ?_
          refine n_append (nv := entL (s.me, ⟨nm, cp, rc, wr (was.ver + 1), d, u, h⟩)) 1 rfl rfl elemEnt hit hparts.1 hparts.2.1 hparts.2.2 rfl (by omega) rfl rfl rfl rfl rfl rfl (by omega) (by simp [Value.oneCell']) (by omega) (by omega) (show s.All.flatMap entL ++ entL (s.me, ⟨nm, cp, rc, wr (was.ver + 1), d, u, h⟩) = (s.All ++ [(s.me, (⟨nm, cp, rc, wr (was.ver + 1), d, u, h⟩ : Vw))]).flatMap entL by simp) fun g' ca' => ?_
          rw [show s.All.length + 1 = (s.All ++ [(s.me, (⟨nm, cp, rc, wr (was.ver + 1), d, u, h⟩ : Vw))]).length by simp]
          (refine gs ?_)
          refine gw ?_
          exact n_ret0 rfl rfl fun ids' w' hp hI' => ⟨(some ⟨g', 0, none⟩, ca'), rfl, trivial, post_shut hI' rfl [0, 1] (.blk rfl (pre_at hp rfl) rfl rfl (.res rfl .nil)) (by simp)⟩
end
end Go.Proofs.YtglafgpjgkphkaaGreatDoor
