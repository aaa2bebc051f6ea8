/- Chapter 9's law without the document's answer: a digest that is new, that comes again, that is refused. Plain. Chapter 9's law without the document's answer: a talk begun. Chapter 9's law without the document's answer: a replica of the talk takes a digest. Chapter 9's law without the document's answer: ViewsLate. Chapter 9's law without the document's answer: what is to be said, as an argument. -/
import Derived.Test.YtcpecnpnnodfhaaBnVi
import Derived.Test.YtcpecnpnnodfhaaLq
import Derived.Test.YtcpecnpnnodfhaaVxO
namespace Go.Proofs.Ytcpecnpnnodfhaa
section
set_option maxRecDepth 100000
set_option linter.unusedSimpArgs false
set_option linter.unusedVariables false
open Go.RowKit

theorem lastF_skip {A B : List (Int × Vw)} {k : Int} {nm : ByteArray} (h : ∀ e ∈ B, ¬ (e.1 = k ∧ e.2.nm = nm)) : lastF (A ++ B) k nm = lastF A k nm := by
  induction B generalizing A with
  | nil => rw [List.append_nil]
  | cons e B ih =>
    rw [show A ++ e :: B = (A ++ [e]) ++ B by simp, ih fun x hx => h x (by simp [hx]), lastF_app]
    unfold lastStep
    rw [if_neg (h e (by simp))]
theorem lastF_none {A : List (Int × Vw)} {k : Int} {nm : ByteArray} (h : ∀ e ∈ A, ¬ (e.1 = k ∧ e.2.nm = nm)) : lastF A k nm = Vw.zero := by
  have := lastF_skip (A := []) h
  simpa [lastF] using this
theorem lastF_in {L : List Vw} (hr : RisV L) {k : Int} {x : Vw} (hx : x ∈ L) : ∀ A : List (Int × Vw), lastF (A ++ L.map fun v => (k, v)) k x.nm = x := by
  induction L with
  | nil => cases hx
  | cons y L ih =>
    intro A
    obtain ⟨h1, h2⟩ := List.pairwise_cons.1 hr
    rw [List.map_cons, show A ++ (k, y) :: L.map (fun v => (k, v)) = (A ++ [(k, y)]) ++ L.map (fun v => (k, v)) by simp]
    rcases List.mem_cons.1 hx with rfl | hx
    · rw [lastF_skip, lastF_app]
      · unfold lastStep; rw [if_pos ⟨rfl, rfl⟩]
      · rintro e he ⟨_, e2⟩
        obtain ⟨z, hz, rfl⟩ := List.mem_map.1 he
        have := h1 z hz
        rw [e2, ltS_irrefl] at this
        cases this
    · exact ih h2 hx _
theorem takes_new {k : Int} : ∀ {L : List Vw} (A : List (Int × Vw)) (q : Nat), RisV L → (∀ x ∈ L, 1 ≤ x.ver) → (∀ x ∈ L, lastF A k x.nm = Vw.zero) → L.foldl (take1R k) (A, q) = (A ++ L.map (fun v => (k, v)), q + L.length)
  | [], A, q, _, _, _ => by simp
  | x :: L, A, q, hr, hv, h0 => by
    obtain ⟨h1, h2⟩ := List.pairwise_cons.1 hr
    have e : take1R k (A, q) x = (A ++ [(k, x)], q + 1) := by
      unfold take1R
      have := hv x (by simp)
      rw [h0 x (by simp), if_pos (by show (0 : Int) < _; omega)]
    rw [List.foldl_cons, e, takes_new (A ++ [(k, x)]) (q + 1) h2 (fun y hy => hv y (by simp [hy])) fun y hy => ?_]
    · simp only [List.map_cons, List.append_assoc, List.singleton_append, List.length_cons]
      congr 1
      omega
    · rw [lastF_app]
      unfold lastStep
      rw [if_neg, h0 y (by simp [hy])]
      rintro ⟨_, e2⟩
      have := h1 y hy
      dsimp only at e2
      rw [e2, ltS_irrefl] at this
      cases this
theorem takes_old {k : Int} : ∀ {L : List Vw} (A : List (Int × Vw)) (q : Nat), (∀ x ∈ L, x.ver ≤ (lastF A k x.nm).ver) → L.foldl (take1R k) (A, q) = (A, q)
  | [], A, q, _ => rfl
  | x :: L, A, q, h => by
    have e : take1R k (A, q) x = (A, q) := by
      unfold take1R
      rw [if_neg (by have := h x (by simp); dsimp only; omega)]
    rw [List.foldl_cons, e, takes_old A q fun y hy => h y (by simp [hy])]
theorem right_ver {v : Vw} (h : rightB v = true) : 1 ≤ v.ver := by
  unfold rightB at h
  rw [Bool.and_eq_true] at h
  exact (of_decide_eq_true h.2).2.2.1
/-- A digest of which nothing was known is news, whole. -/
theorem take_new {r : Rv} (h : Sp r) {k : Int} {L : List Vw} (hk : 0 ≤ k ∧ k < r.n ∧ k ≠ r.me) (hl : L.length ≤ 4) (hr : RisV L) (hb : ∀ v ∈ L, rightB v = true) (h0 : ∀ e ∈ r.All, e.1 ≠ k) :
    r.take k L = ({ r with All := r.All ++ L.map fun v => (k, v) }, (L.length : Int), 0) := by
  have hn := h.names k
  have hf : freshR r.All k L ≤ L.length := by unfold freshR; exact List.countP_le_length
  unfold Rv.take takesR
  rw [if_neg (by omega), if_neg (by omega), if_neg (by rw [good_ris hr hb]; simp), if_neg (by omega), takes_new r.All 0 hr (fun x hx => right_ver (hb x hx)) fun x hx => lastF_none fun e he h => h0 e he h.1]
  simp
/-- A digest that is known is no news. -/
theorem take_old {r : Rv} (h : Sp r) {k : Int} {L : List Vw} (hk : 0 ≤ k ∧ k < r.n ∧ k ≠ r.me) (hl : L.length ≤ 4) (hr : RisV L) (hb : ∀ v ∈ L, rightB v = true) (h0 : ∀ x ∈ L, x.ver ≤ (lastF r.All k x.nm).ver) :
    r.take k L = (r, 0, 0) := by
  have hn := h.names k
  have hf : freshR r.All k L ≤ L.length := by unfold freshR; exact List.countP_le_length
  unfold Rv.take takesR
  rw [if_neg (by omega), if_neg (by omega), if_neg (by rw [good_ris hr hb]; simp), if_neg (by omega), takes_old r.All 0 h0]
  simp
/-- A digest with a view that is not right is refused. -/
theorem take_bad {r : Rv} {k : Int} {L : List Vw} (hk : 0 ≤ k ∧ k < r.n ∧ k ≠ r.me) (hl : L.length ≤ 5) {v : Vw} (hv : v ∈ L) (hb : rightB v = false) : r.take k L = (r, 0, 1) := by
  have hg : goodL L = false := by
    obtain ⟨i, hi, e⟩ := List.getElem_of_mem hv
    refine goodL_false hi ?_
    unfold okAt
    rw [List.getD_eq_getElem?_getD, List.getElem?_eq_getElem hi, e]
    show (rightB v && _) = false
    rw [hb]; rfl
  unfold Rv.take
  rw [if_neg (by omega), if_neg (by omega), if_pos hg]

/-! ### The talk after sayings -/
/-- Each holds what it said itself alone, and that is right. -/
def Own (X : List Rp) : Prop := ∀ (i : Nat) x, X[i]? = some x → (∀ e ∈ x.r.All, e.1 = (i : Int)) ∧ ∀ e ∈ x.r.All, rightB e.2 = true
theorem say_like {x : Rp} {n N : Nat} (hv : VRel x.s x.r n) (hs : Sp x.r) (hal : x.r.All.length ≤ 10 * N) (hN : N ≤ 1000) {k : Nat} (hk : k < 4) {d u h : Int} (hd : 0 ≤ d ∧ d ≤ 30) (hu : 0 ≤ u ∧ u ≤ 30) (hh : 0 ≤ h ∧ h ≤ 30) :
    VRel (x.say k d u h).s (x.say k d u h).r n ∧ Sp (x.say k d u h).r ∧ (x.say k d u h).r.me = x.r.me ∧ (x.say k d u h).r.n = x.r.n ∧ (x.say k d u h).r.All.length ≤ 10 * (N + 1) := by
  have h1 := (tell_like hv (by omega) (nmK k) 100 0 d u h).2
  have h2 := tell_say hs (by omega) hk hd hu hh
  have h3 := say_len x.r k d u h
  refine ⟨?_, say_sp hs hk d u h, h3.2.1, h3.2.2, by have := h3.1; show (sayF x.r k d u h).All.length ≤ _; omega⟩
  show VRel (x.s.tell (xK k d u h 1)).1 (sayF x.r k d u h) n
  have e := congrArg Prod.fst h2
  dsimp only at e
  rw [← e]
  exact h1
theorem ok_say {T : Tk} {n N : Nat} {i : Nat} {x : Rp} {S' : Nat → Option Addr × Nat} (hT : T.ok n N) (hN : N ≤ 1000) (hx : T.X[i]? = some x) {k : Nat} (hk : k < 4) {d u h : Int} (hd : 0 ≤ d ∧ d ≤ 30) (hu : 0 ≤ u ∧ u ≤ 30) (hh : 0 ≤ h ∧ h ≤ 30) :
    ({ T with X := T.X.set i (x.say k d u h), S := S' } : Tk).ok n (N + 1) := by
  obtain ⟨h1, h2, h3⟩ := hT
  refine ⟨by simp [h1], h2, fun j y hy => ?_⟩
  dsimp only at hy
  rw [List.getElem?_set] at hy
  split at hy
  · rename_i e
    subst e
    simp only [(List.getElem?_eq_some_iff.1 hx).1, if_true] at hy
    cases hy
    obtain ⟨a1, a2, a3, a4⟩ := h3 i x hx
    obtain ⟨b1, b2, b3, _, b5⟩ := say_like a1 a2 a4 hN hk hd hu hh
    exact ⟨b1, b2, b3.trans a3, b5⟩
  · obtain ⟨a1, a2, a3, a4⟩ := h3 j y hy
    exact ⟨a1, a2, a3, by omega⟩
theorem own_say {X : List Rp} {i : Nat} {x : Rp} (h : Own X) (hx : X[i]? = some x) (hme : x.r.me = (i : Int)) {k : Nat} (hk : k < 4) {d u hh : Int} (hd : 0 ≤ d ∧ d ≤ 30) (hu : 0 ≤ u ∧ u ≤ 30) (hhh : 0 ≤ hh ∧ hh ≤ 30) : Own (X.set i (x.say k d u hh)) := by
  intro j y hy
  rw [List.getElem?_set] at hy
  split at hy
  · rename_i e
    subst e
    simp only [(List.getElem?_eq_some_iff.1 hx).1, if_true] at hy
    cases hy
    obtain ⟨a1, a2⟩ := h i x hx
    have key : ∀ e ∈ (sayF x.r k d u hh).All, e ∈ x.r.All ∨ (e.1 = (i : Int) ∧ rightB e.2 = true) := by
      intro e he
      unfold sayF at he
      split at he
      · exact .inl he
      · rcases List.mem_append.1 he with he | he
        · exact .inl he
        · rw [List.mem_singleton] at he
          subst he
          exact .inr ⟨hme, right_xK hk hd hu hhh (by omega)⟩
    exact ⟨fun e he => (key e he).elim (a1 e) (·.1), fun e he => (key e he).elim (a2 e) (·.2)⟩
  · exact h j y hy
/-- What was said last is not older than before. -/
def Newer (r r' : Rv) : Prop := r'.me = r.me ∧ ∀ nm, (ownL r.All r.me nm).length ≤ (ownL r'.All r'.me nm).length
theorem Newer.refl (r : Rv) : Newer r r := ⟨rfl, fun _ => Nat.le_refl _⟩
theorem newer_say {r0 r : Rv} (h : Newer r0 r) (k : Nat) (d u hh : Int) : Newer r0 (sayF r k d u hh) := by
  obtain ⟨h1, h2⟩ := h
  refine ⟨(say_len r k d u hh).2.1.trans h1, fun nm => Nat.le_trans (h2 nm) ?_⟩
  rw [(say_len r k d u hh).2.1]
  unfold sayF
  split
  · exact Nat.le_refl _
  · dsimp only
    rw [ownL_app, List.length_append]; omega
theorem digU_right {X : List Rp} {i : Nat} {x : Rp} (h : Own X) (hx : X[i]? = some x) : ∀ v ∈ digU x.r 4, rightB v = true := by
  intro v hv
  obtain ⟨j, hj, rfl⟩ := List.mem_map.1 hv
  obtain ⟨_, h2⟩ := lastK_nm (r := x.r) (k := j) (notT (List.mem_filter.1 hj).2)
  exact (h i x hx).2 _ (ownL_nm h2).2
/-- An older digest is known where a newer one is. -/
theorem dig_older {r0 r : Rv} (hn : Newer r0 r) (h0 : Sp r0) (h1 : Sp r) {A : List (Int × Vw)} {k : Int} : ∀ x ∈ digU r0 4, x.ver ≤ (lastF (A ++ (digU r 4).map fun v => (k, v)) k x.nm).ver := by
  intro x hx
  obtain ⟨j, hj, rfl⟩ := List.mem_map.1 hx
  obtain ⟨hj1, hj2⟩ := List.mem_filter.1 hj
  obtain ⟨a1, a2⟩ := lastK_nm (r := r0) (k := j) (notT hj2)
  have hlen := hn.2 (nmK j)
  have hpos := List.length_pos_of_mem a2
  have hne : (ownL r.All r.me (nmK j)).isEmpty = false := by
    cases h : ownL r.All r.me (nmK j) with
    | nil => rw [h] at hlen; simp at hlen; rw [hlen] at hpos; simp at hpos
    | cons a l => rfl
  obtain ⟨b1, b2⟩ := lastK_nm (r := r) (k := j) hne
  have hz : lastF r.All r.me (nmK j) ∈ digU r 4 := List.mem_map.2 ⟨j, List.mem_filter.2 ⟨hj1, by simp [hne]⟩, rfl⟩
  have := lastF_in (digU_ris r) (k := k) hz A
  rw [b1] at this
  rw [a1, this, ← h0.ver, ← h1.ver]
  omega
/-- What is about where one alone has said something. -/
theorem about_one {A : List (Int × Vw)} {nm : ByteArray} {x : Vw} (h0 : lastF A 0 nm = x) (h1 : ∀ i : Nat, i ≠ 0 → lastF A (i : Int) nm = Vw.zero) (hv : 1 ≤ x.ver) : ∀ n, 1 ≤ n → rAboutD A nm n = x.d ∧ rAboutB A nm n = true
  | 1, _ => by
    simp only [rAboutD, rAboutB]
    rw [show ((0 : Nat) : Int) = 0 from rfl, h0]
    exact ⟨by omega, by simp; omega⟩
  | n + 2, _ => by
    obtain ⟨a, b⟩ := about_one h0 h1 hv (n + 1) (by omega)
    rw [rAboutD, rAboutB, a, b, h1 (n + 1) (by omega)]
    exact ⟨by simp, by simp⟩
end
section
set_option maxRecDepth 100000
set_option linter.unusedSimpArgs false
set_option linter.unusedVariables false
set_option maxHeartbeats 8000000
open Go.RowKit

def newRp (n : Nat) (i : Nat) (v mb nb : Nat) : Rp := ⟨v, mb, nb, ⟨(i : Int), [], List.replicate n 0⟩, ⟨(i : Int), n, []⟩⟩
def FreshX (n : Nat) (X : List Rp) : Prop := ∀ (i : Nat) x, X[i]? = some x → ∃ v mb nb, x = newRp n i v mb nb
def Tk.new (vo : Option Addr) (vc : Nat) (X : List Rp) : Tk := ⟨vo, vc, X, fun _ => (none, 0), none, 0, []⟩
abbrev tk0 (v : Value) : List SV := .raw v :: List.replicate 33 (.raw (.slice none 0 0))
abbrev tk0v (v : Value) : List Value := v :: List.replicate 33 (.slice none 0 0)
theorem elemVp : sliceElem Try.prog 36 = some 35 := by kernel_rfl
theorem infoVp : (Try.prog.info? 35).map (fun i => (i.zero, i.size, i.bytes)) = some (some (.pointer none), 1, 8) := by kernel_rfl
theorem fresh_hadL {n : Nat} {X : List Rp} (h : FreshX n X) (j : Nat) : hadL X j = [] := by
  unfold hadL
  cases hx : X[j / 4]? with
  | none => rfl
  | some x =>
    obtain ⟨v, mb, nb, rfl⟩ := h _ x hx
    rfl
theorem fresh_add {n : Nat} {X : List Rp} (h : FreshX n X) (v mb nb : Nat) : FreshX n (X ++ [newRp n X.length v mb nb]) := by
  intro i x hx
  by_cases e : i < X.length
  · rw [List.getElem?_append_left e] at hx
    exact h i x hx
  · rw [List.getElem?_append_right (by omega)] at hx
    have h0 : i - X.length = 0 := by
      have := (List.getElem?_eq_some_iff.1 hx).1
      simp at this; omega
    rw [h0] at hx
    simp at hx
    subst hx
    exact ⟨v, mb, nb, by congr 1; omega⟩
theorem new_tk_ok {n N : Nat} {vo : Option Addr} {vc : Nat} {X : List Rp} (hn : 2 ≤ n ∧ n ≤ 8) (hl : X.length = n) (h : FreshX n X) : (Tk.new vo vc X).ok n 0 :=
  ⟨hl, hn, fun i x hx => by
    obtain ⟨v, mb, nb, rfl⟩ := h i x hx
    have hi : i < n := by rw [← hl]; exact (List.getElem?_eq_some_iff.1 hx).1
    exact ⟨VRel.new ⟨by omega, by omega⟩, ⟨fun nm => rfl, fun e he => by cases he⟩, rfl, by simp [newRp]⟩⟩
theorem all_empty {A : List Res} {w : World} (h : ∀ r ∈ A, r.R w ∧ r.fp = []) : (allRes A).R w ∧ (allRes A).fp = [] := by
  refine ⟨⟨fun r hr => (h r hr).1, fun i j r s hi _ _ x hx _ => ?_⟩, ?_⟩
  · rw [(h r (List.mem_of_getElem? hi)).2] at hx; cases hx
  · rw [List.eq_nil_iff_forall_not_mem]
    intro x hx
    obtain ⟨r, hr, hxr⟩ := List.mem_flatMap.1 hx
    rw [(h r hr).2] at hxr; cases hxr
theorem begun_ok {n : Nat} (hn : 2 ≤ n ∧ n ≤ 8) (w : World) : Calls Try.prog 13 #[.int .i64 (n : Nat)] w fun e w' => ∃ y : Nat × Option Addr × Nat × List Rp, e = .returned (pV y.1) ∧ (y.2.2.2.length = n ∧ FreshX n y.2.2.2) ∧ FreshR w w' (tkRes y.1 (Tk.new y.2.1 y.2.2.1 y.2.2.2)) := by
  have hI := Inv.nil (P := Try.prog) (N := 37) (S := []) (os := []) w
  obtain ⟨itt, hitt, hpt⟩ := Option.map_eq_some_iff.1 infoVp
  simp only [Prod.mk.injEq] at hpt
  refine calls_sm (cx 37 [] [] w) (vals := [.int .i64 (n : Nat)]) mixed Try.func13 rfl rfl rfl hI rfl (st rfl ?_); conv => arg 3; whnf
  refine gw ?_
  refine n_loop1 rfl fun bk => ?_
  refine n_loopX [0, 0] [⟨41, tk0 (.slice none 0 0), true⟩, ⟨35, [.res (rowRes 35 1 none 0 0 [])], true⟩, ⟨84, [.res (allRes [])], true⟩] rfl (fun w hI => (hI.addR (Frm.refl [] w) (rowRes 35 1 none 0 0 []) 35 true (rowRes_nil _ _ _) (fun x hx => by simp [rowRes] at hx) (fun x hx => by simp [rowRes] at hx)).addR (Frm.refl [] w) (allRes []) 84 true (all_nil w) (fun x hx => by simp [allRes] at hx) (fun x hx => by simp [allRes] at hx)) ?_
  refine n_loopM (σ := List Rp × Option Addr × Nat) (fun s => [(0, .int .i64 (n : Nat)), (3, .ptr 0 0), (4, .int .i64 (s.1.length : Nat))]) (fun s => [⟨41, tk0 (.slice s.2.1 s.1.length s.2.2), true⟩, ⟨35, [.res (rowRes 35 1 s.2.1 s.1.length s.2.2 (ptrs s.1))], true⟩, ⟨84, [.res (allRes (s.1.map Rp.res))], true⟩]) (fun s => s.1.length ≤ n ∧ FreshX n s.1) (fun s => n - s.1.length) ([], none, 0) mixed ⟨by simp, by intro i x hx; simp at hx⟩ (fun _ _ => rfl) (fun _ h => h) rfl (by (repeat (first | exact trivial | refine ⟨⟨rfl, rfl⟩, ?_⟩))) (fun s _ => ⟨by (repeat (first | exact trivial | refine ⟨⟨_, rfl⟩, ?_⟩)), by (repeat (first | exact trivial | refine ⟨⟨_, rfl⟩, ?_⟩))⟩) fun t ht => ?_
  obtain ⟨X, vo, vc⟩ := t
  obtain ⟨hXl, hX⟩ := ht
  dsimp only at hXl hX ⊢
  (refine gs ?_)
  by_cases hlt : X.length < n
  · have ei : IntKind.i64.wrap ((X.length : Int) + 1) = ((X.length + 1 : Nat) : Int) := by rw [w64 (by omega) (by omega)]; simp
    refine gw ?_
    refine n_callN (fun y : Nat × Nat × Nat => viewsRes y.1 y.2.1 y.2.2 ⟨(X.length : Int), [], List.replicate n 0⟩) 84 (fun y => .tup [.raw (pV y.1), .int .i64 0]) (fun y => .tuple #[pV y.1, .int .i64 0]) (fun _ => True) rfl rfl rfl (fun _ => rfl) (fun w1 hI1 => vNew_good (me := (X.length : Int)) (n := (n : Int)) (by unfold newErr; rw [if_neg (by omega), if_neg (by omega)]) w1) ?_
    rintro ⟨v, mb, nb⟩ _ _
    dsimp only
    (refine gs ?_)
    refine gw ?_
    refine n_build1 rfl rfl elemVp rfl rfl rfl rfl rfl rfl rfl (by rfl) rfl ?_
    (refine gs ?_)
    refine gw ?_
    refine n_append (nv := [pV v]) 1 rfl rfl elemVp hitt hpt.1 hpt.2.1 hpt.2.2 rfl (by omega) rfl rfl rfl rfl rfl rfl (by omega) (by simp [Value.oneCell']) (by omega) (by omega) (show ptrs X ++ [pV v] = ptrs (X ++ [newRp n X.length v mb nb]) by simp [ptrs, newRp]) fun g2 c2 => ?_
    (refine gs ?_)
    refine gw ?_
    have ei' : IntKind.i64.wrap ((X.length : Int) + 1) = (((X ++ [newRp n X.length v mb nb]).length : Nat) : Int) := by rw [ei]; simp
    refine n_againM fun ids' w' hp hI' => ⟨(X ++ [newRp n X.length v mb nb], some ⟨g2, 0, none⟩, c2), ⟨by simp; omega, fresh_add hX v mb nb⟩, by simp; omega, (by (repeat (first | exact trivial | refine ⟨⟨rfl, rfl⟩, ?_⟩ | refine ⟨⟨rfl, congrArg (SV.int .i64) ei'⟩, ?_⟩))), ?_⟩
    have h2 := hI'.lessR 2 rfl rfl rfl (fun h => all_none h)
    have h3 := h2.join 2 3 (by decide) rfl rfl rfl rfl rfl rfl (fun h => all_in (i := X.length) h (by simp))
    have E5 : (X.map Rp.res ++ [Res.none]).set X.length (viewsRes v mb nb ⟨(X.length : Int), [], List.replicate n 0⟩) = (X ++ [newRp n X.length v mb nb]).map Rp.res := by
      rw [List.map_append, List.set_append_right _ _ (by simp)]
      simp [newRp]
    rw [E5] at h3
    refine ⟨[⟨84, [.res Res.none], true⟩, ⟨35, [.raw (pV v)], true⟩], ?_⟩
    dsimp only
    rw [List.length_append]
    exact h3
  · obtain rfl : X.length = n := by omega
    refine gw ?_
    refine n_exitM rfl ?_
    (refine gs ?_)
    refine gw ?_
    refine n_ret rfl fun ids' w' hp hI' => ?_
    obtain rfl := ext0 hp (by rw [hI'.len]; rfl)
    refine ⟨_, rfl, (bk, vo, vc, X), rfl, ⟨rfl, hX⟩, ?_⟩
    have h1 := hI'.asCells 0 rfl rfl rfl (xs := tk0v (.slice vo X.length vc)) rfl
    have hrows : ∀ r ∈ (Tk.new vo vc X).rows, r = vRow none 0 0 [] := by
      intro r hr
      obtain ⟨j, _, rfl⟩ := List.mem_map.1 hr
      unfold Tk.row
      rw [show hadL (Tk.new vo vc X).X j = [] from fresh_hadL hX j]
      rfl
    have h2 := h1.addR (Frm.refl [] w') (allRes (Tk.new vo vc X).rows) 49 true (all_empty fun r hr => by rw [hrows r hr]; exact ⟨rowRes_nil _ _ _, by simp [rowRes]⟩).1 (fun x hx => by rw [(all_empty (w := w') fun r hr => by rw [hrows r hr]; exact ⟨rowRes_nil _ _ _, by simp [rowRes]⟩).2] at hx; cases hx) (fun x hx => by rw [(all_empty (w := w') fun r hr => by rw [hrows r hr]; exact ⟨rowRes_nil _ _ _, by simp [rowRes]⟩).2] at hx; cases hx)
    have h3 := h2.addR (Frm.refl [] w') (rowRes 44 2 none 0 0 []) 44 true (rowRes_nil _ _ _) (by simp [rowRes]) (by simp [rowRes])
    have h4 := h3.addR (Frm.refl [] w') (allRes []) 49 true (all_nil w') (by simp [allRes]) (by simp [allRes])
    have E0 : tk0v (.slice vo X.length vc) = (Tk.new vo vc X).cells := by
      unfold Tk.cells
      have e1 : ∀ j, j < 32 → (Tk.new vo vc X).sl j = .slice none 0 0 := fun j _ => by
        unfold Tk.sl
        rw [show hadL (Tk.new vo vc X).X j = [] from fresh_hadL hX j]
        rfl
      rw [tcl_congr e1]
      rfl
    exact fresh_shut (ids := [0, 0, 0, 0, 0, 0]) (mem := tkMem bk (Tk.new vo vc X)) h4 rfl [0, 1, 2, 3, 4, 5] (.res (congrArg (fun c => some (⟨41, [.res (cellsRes bk c 41)], true⟩ : SBlk)) E0) (.res rfl (.res rfl (.res rfl (.res rfl (.res rfl .nil)))))) (by decide)
theorem begun_ok' {n : Nat} (hn : 2 ≤ n ∧ n ≤ 8) (w : World) : Calls Try.prog 13 #[.int .i64 (n : Nat)] w fun e w' => ∃ y : Nat × Option Addr × Nat × List Rp, e = .returned (pV y.1) ∧ (y.2.2.2.length = n ∧ FreshX n y.2.2.2 ∧ ∃ g, y.2.1 = some ⟨g, 0, none⟩) ∧ FreshR w w' (tkRes y.1 (Tk.new y.2.1 y.2.2.1 y.2.2.2)) :=
  (begun_ok hn w).mono fun e w' ⟨y, he, ⟨h1, h2⟩, hf⟩ => ⟨y, he, ⟨h1, h2, rowRes_some' (memRes_res hf.2.1 1 rfl rfl) (by show 0 < y.2.2.2.length; omega)⟩, hf⟩
end
section
set_option maxRecDepth 100000
set_option linter.unusedSimpArgs false
set_option linter.unusedVariables false
set_option maxHeartbeats 8000000
open Go.RowKit

/-- A call on one of a family. -/
theorem post_all {A : List Res} {i : Nat} {r r' : Res} {w w' : World} (hR : (allRes A).R w) (hlt : ∀ x ∈ (allRes A).fp, x < w.heap.size) (hi : A[i]? = some r) (hP : Post r r' w w') : Post (allRes A) (allRes (A.set i r')) w w' := by
  obtain ⟨hf, h1, h2, h3⟩ := hP
  obtain ⟨hA, hap⟩ := hR
  have hl := (List.getElem?_eq_some_iff.1 hi).1
  have hin : ∀ {j : Nat} {s : Res}, A[j]? = some s → ∀ x ∈ s.fp, x ∈ (allRes A).fp := fun hj x hx => List.mem_flatMap.2 ⟨_, List.mem_of_getElem? hj, hx⟩
  have hget : ∀ (j : Nat) s, (A.set i r')[j]? = some s → (j = i ∧ s = r') ∨ (j ≠ i ∧ A[j]? = some s) := by
    intro j s hs
    rw [List.getElem?_set] at hs
    split at hs
    · rename_i e
      subst e
      try simp only [hl, if_true] at hs
      cases hs
      exact .inl ⟨rfl, rfl⟩
    · rename_i e
      exact .inr ⟨fun h => e h.symm, hs⟩
  have hsz := hf.size
  have hkeep : ∀ (j : Nat) s, j ≠ i → A[j]? = some s → ∀ x ∈ s.fp, w'.heap[x]? = w.heap[x]? := fun j s hj hs x hx => hf.block x (hlt x (hin hs x hx)) fun hxr => hap j i s r hs hi hj x hx hxr
  have hfp : ∀ x ∈ (allRes (A.set i r')).fp, x ∈ (allRes A).fp ∨ w.heap.size ≤ x := by
    intro x hx
    obtain ⟨s, hs, hxs⟩ := List.mem_flatMap.1 hx
    obtain ⟨j, hj⟩ := List.mem_iff_getElem?.1 hs
    rcases hget j s hj with ⟨rfl, rfl⟩ | ⟨_, hj⟩
    · exact (h2 x hxs).imp (hin hi x) id
    · exact .inl (hin hj x hxs)
  refine ⟨hf.mono (hin hi), ⟨fun s hs => ?_, fun j k s t hj hk hjk x hx hxt => ?_⟩, hfp, fun x hx => ?_⟩
  · obtain ⟨j, hj⟩ := List.mem_iff_getElem?.1 hs
    rcases hget j s hj with ⟨rfl, rfl⟩ | ⟨hne, hj⟩
    · exact h1
    · exact s.stable w w' (hkeep j s hne hj) (hA s (List.mem_of_getElem? hj))
  · rcases hget j s hj with ⟨rfl, rfl⟩ | ⟨hne, hj⟩
    · rcases hget k t hk with ⟨rfl, rfl⟩ | ⟨hne2, hk⟩
      · exact hjk rfl
      · rcases h2 x hx with h | h
        · exact hap j k r t hi hk (fun e => hjk e) x h hxt
        · have := hlt x (hin hk x hxt); omega
    · rcases hget k t hk with ⟨rfl, rfl⟩ | ⟨hne2, hk⟩
      · rcases h2 x hxt with h | h
        · exact hap j k s r ‹A[j]? = some s› hi hjk x hx h
        · have := hlt x (hin ‹A[j]? = some s› x hx); omega
      · exact hap j k s t hj hk hjk x hx hxt
  · rcases hfp x hx with h | h
    · have := hlt x h; omega
    · obtain ⟨s, hs, hxs⟩ := List.mem_flatMap.1 hx
      obtain ⟨j, hj⟩ := List.mem_iff_getElem?.1 hs
      rcases hget j s hj with ⟨rfl, rfl⟩ | ⟨_, hj⟩
      · exact h3 x hxs
      · have := hlt x (hin hj x hxs); omega
/-- Replica x has taken a digest of k's. -/
def Rp.taken (x : Rp) (k : Int) (L : List Vw) : Rp := { x with s := (x.s.take k L).1, r := (x.r.take k L).1 }
theorem take_own' (r : Rv) (k : Int) (L : List Vw) (nm : ByteArray) : ownL (r.take k L).1.All (r.take k L).1.me nm = ownL r.All r.me nm := by
  by_cases h : k = r.me
  · subst h
    unfold Rv.take
    rw [if_pos (.inr (.inr rfl))]
  · exact take_own L h nm
theorem tk_own {T : Tk} {wi : Nat} {x x' : Rp} (hx : T.X[wi]? = some x) (hv : x'.v = x.v) (hm : x'.r.me = x.r.me) (ho : ∀ nm, ownL x'.r.All x'.r.me nm = ownL x.r.All x.r.me nm) : (∀ j, hadL (T.X.set wi x') j = hadL T.X j) ∧
    ({ T with X := T.X.set wi x' } : Tk).cells = T.cells ∧ ptrs (T.X.set wi x') = ptrs T.X ∧ ({ T with X := T.X.set wi x' } : Tk).rows = T.rows := by
  have hl := (List.getElem?_eq_some_iff.1 hx).1
  have hh : ∀ j, hadL (T.X.set wi x') j = hadL T.X j := fun j => by
    unfold hadL
    rw [List.getElem?_set]
    by_cases h : wi = j / 4
    · rw [if_pos h, if_pos hl, ← h, hx]
      exact ho _
    · rw [if_neg h]
  refine ⟨hh, ?_, ?_, ?_⟩
  · unfold Tk.cells
    dsimp only
    rw [List.length_set]
    refine tcl_congr fun j _ => ?_
    unfold Tk.sl
    dsimp only
    rw [hh]
  · unfold ptrs
    rw [List.map_set]
    apply List.ext_getElem?
    intro k
    rw [List.getElem?_set]
    split
    · rename_i e
      subst e
      rw [if_pos (by simpa using hl), List.getElem?_map, hx, hv]; rfl
    · rfl
  · unfold Tk.rows
    refine List.map_congr_left fun j _ => ?_
    unfold Tk.row
    dsimp only
    rw [hh]
theorem tk_res {t : Nat} {T : Tk} {wi : Nat} {x : Rp} {w : World} (hR : (tkRes t T).R w) (hx : T.X[wi]? = some x) : x.res.R w := all_at (memRes_res hR 2 rfl rfl) (by rw [List.getElem?_map, hx]; rfl)
theorem tk_in {t : Nat} {T : Tk} {wi : Nat} {x : Rp} {w : World} (hR : (tkRes t T).R w) (hx : T.X[wi]? = some x) : ∀ y ∈ x.res.fp, y ∈ (tkRes t T).fp := fun y hy => by
  refine fpsOf_mem hR.1 (i := 2) (b := ⟨84, [.res (allRes (T.X.map Rp.res))], true⟩) rfl y ?_
  rw [fpOf_res (r := allRes (T.X.map Rp.res)) rfl]
  exact List.mem_flatMap.2 ⟨x.res, List.mem_map.2 ⟨x, List.mem_of_getElem? hx, rfl⟩, hy⟩
theorem tk_take {t n N : Nat} {T : Tk} {w : World} (hT : T.ok n N) (hR : (tkRes t T).R w) {wi : Nat} {x : Rp} (hx : T.X[wi]? = some x) (k : Int) (hk : i64 k) {o : Option Addr} {L : List Vw} {m : Nat} (hm : L.length = m) (cap : Nat) (hL : (readRes o (vws L)).R w) (hap : ∀ y ∈ x.res.fp, y ∉ (readRes o (vws L)).fp) (hN : N ≤ 10000) :
    Calls Try.prog 21 #[pV x.v, .int .i64 k, .slice o m cap] w fun e w' => e = .returned (.tuple #[.int .i64 (x.r.take k L).2.1, .int .i64 (x.r.take k L).2.2]) ∧ Post (tkRes t T) (tkRes t { T with X := T.X.set wi (x.taken k L) }) w w' := by
  obtain ⟨hv, hs, hme, hal⟩ := hT.rel wi x hx
  have hn := hT.nn
  have hc := cnt_any hv (by omega) k
  have ht := take_like hv k L
  refine (Take_n (tk_res hR hx) (by rw [hv.len]; omega) k hk (by omega) hm cap hL hap).mono fun e w' ⟨he, hP⟩ => ⟨by rw [he, ht.1], ?_⟩
  have h2 : Post (allRes (T.X.map Rp.res)) (allRes ((T.X.map Rp.res).set wi (x.taken k L).res)) w w' := post_all (memRes_res hR 2 rfl rfl) (fun y hy => memRes_lt hR y (fpsOf_mem hR.1 (i := 2) (b := ⟨84, [.res (allRes (T.X.map Rp.res))], true⟩) rfl y (by rw [fpOf_res (r := allRes (T.X.map Rp.res)) rfl]; exact hy))) (by rw [List.getElem?_map, hx]; rfl) hP
  have h3 := post_in Try.prog hR (i := 2) rfl rfl rfl h2
  obtain ⟨_, e1, e2, e3⟩ := tk_own (x' := x.taken k L) hx rfl (take_app x.r k L).choose_spec.2.1 (take_own' x.r k L)
  have E0 : tkMem t { T with X := T.X.set wi (x.taken k L) } = setCells (tkMem t T) 2 [.res (allRes ((T.X.map Rp.res).set wi (x.taken k L).res))] := by
    unfold tkMem
    rw [e1, e2, e3]
    dsimp only
    rw [List.length_set, List.map_set]
    rfl
  show Post (memRes _ _) (memRes _ _) w w'
  rw [E0]
  exact h3
theorem take_len (r : Rv) (k : Int) (L : List Vw) : (r.take k L).1.All.length ≤ r.All.length + L.length := by
  have h := (takesR_len r.All k L L.length (Nat.le_refl _)).1
  rw [List.take_length] at h
  unfold Rv.take
  split
  · dsimp only; omega
  · split
    · dsimp only; omega
    · split
      · dsimp only; omega
      · split
        · dsimp only; omega
        · exact h
theorem ok_take {T : Tk} {n N : Nat} {i : Nat} {x : Rp} (hT : T.ok n N) (hx : T.X[i]? = some x) {k : Nat} {L : List Vw} (hk : k ≠ i) (hl : L.length ≤ 4) (hL : ∀ v ∈ L, ∃ j, j < 4 ∧ v.nm = nmK j) : ({ T with X := T.X.set i (x.taken k L) } : Tk).ok n (N + 1) := by
  obtain ⟨h1, h2, h3⟩ := hT
  refine ⟨by simp [h1], h2, fun j y hy => ?_⟩
  dsimp only at hy
  rw [List.getElem?_set] at hy
  split at hy
  · rename_i e
    subst e
    simp only [(List.getElem?_eq_some_iff.1 hx).1, if_true] at hy
    cases hy
    obtain ⟨a1, a2, a3, a4⟩ := h3 i x hx
    have := take_len x.r k L
    refine ⟨(take_like a1 k L).2, take_sp a2 (by rw [a3]; omega) hL, (take_app x.r k L).choose_spec.2.1.trans a3, ?_⟩
    show (x.r.take k L).1.All.length ≤ _
    omega
  · obtain ⟨a1, a2, a3, a4⟩ := h3 j y hy
    exact ⟨a1, a2, a3, by omega⟩
theorem digU_nms (r : Rv) : ∀ v ∈ digU r 4, ∃ j, j < 4 ∧ v.nm = nmK j := by
  intro v hv
  obtain ⟨j, hj, rfl⟩ := List.mem_map.1 hv
  exact ⟨j, List.mem_range.1 (List.mem_filter.1 hj).1, (lastK_nm (r := r) (notT (List.mem_filter.1 hj).2)).1⟩
end
section
set_option maxRecDepth 100000
set_option linter.unusedSimpArgs false
set_option linter.unusedVariables false
set_option maxHeartbeats 8000000
open Go.RowKit

theorem aggSy : aggB Try.prog 32 = some true := by kernel_rfl
theorem sizeSy : sizeB Try.prog 32 = some 7 := by kernel_rfl
abbrev syRes (o : Option Addr) (S : List Sy) : Res := readRes o (S.flatMap Sy.l)
theorem sy_load {a : Addr} {S : List Sy} {w : World} (h : (syRes (some a) S).R w) {i : Nat} {x : Sy} (hx : S[i]? = some x) {ad : Addr} (had : ad = a.add (i * 7)) : (loadVar 32 ad).run Try.prog w = .ok x.val w :=
  load_row (l := x.l) aggSy sizeSy fun j u hu => rd_at sy_len h hx (j := j) (by have := (List.getElem?_eq_some_iff.1 hu).1; simpa using this) hu (by rw [had, add_add])
theorem i64_0 : i64 0 := by constructor <;> decide
theorem newer_next {X : List Rp} {r0 : Rv} {z : Rp} (h : ∃ x, X[0]? = some x ∧ Newer r0 x.r) (hz : X[0]? = some z) (k : Nat) (d u hh : Int) : ∃ x, (X.set 0 (z.say k d u hh))[0]? = some x ∧ Newer r0 x.r := by
  obtain ⟨x, hx, hn⟩ := h
  obtain rfl : x = z := by rw [hx] at hz; exact Option.some.inj hz
  exact ⟨x.say k d u hh, by rw [List.getElem?_set_self (List.getElem?_eq_some_iff.1 hx).1], newer_say hn k d u hh⟩
theorem within0 (m : Int) : withinF 0 0 m = 0 := by unfold withinF; simp
/-- The others hold nothing. -/
def Quiet (X : List Rp) : Prop := ∀ (i : Nat) x, X[i]? = some x → i ≠ 0 → x.r.All = []
theorem Quiet.set {X : List Rp} (h : Quiet X) (x : Rp) : Quiet (X.set 0 x) := fun i y hy hi => h i y (by rwa [List.getElem?_set_ne (fun e => hi e.symm)] at hy) hi
theorem fresh_own {n : Nat} {X : List Rp} (h : FreshX n X) : Own X ∧ Quiet X := by
  refine ⟨fun i x hx => ?_, fun i x hx _ => ?_⟩
  · obtain ⟨v, mb, nb, rfl⟩ := h i x hx
    exact ⟨fun e he => by simp [newRp] at he, fun e he => by simp [newRp] at he⟩
  · obtain ⟨v, mb, nb, rfl⟩ := h i x hx
    rfl
abbrev Tk.said (T : Tk) (y : Rp × (Nat → Option Addr × Nat)) (k : Nat) (d u h : Int) : Tk := { T with X := T.X.set 0 (y.1.say k d u h), S := y.2 }
theorem said_step {n N : Nat} {T : Tk} (hT : T.ok n N) (hN : N ≤ 1000) (hO : Own T.X) (hQ : Quiet T.X) {x : Rp} (hx : T.X[0]? = some x) (S' : Nat → Option Addr × Nat) (s : Sy) :
    (T.said (x, S') (withinF s.nm 0 3).toNat (withinF s.d 0 30) (withinF s.u 0 30) (withinF s.h 0 30)).ok n (N + 1) ∧ Own (T.said (x, S') (withinF s.nm 0 3).toNat (withinF s.d 0 30) (withinF s.u 0 30) (withinF s.h 0 30)).X ∧ Quiet (T.said (x, S') (withinF s.nm 0 3).toNat (withinF s.d 0 30) (withinF s.u 0 30) (withinF s.h 0 30)).X := by
  have b1 := within_le (x := s.nm) (show (0 : Int) ≤ 3 by omega)
  have b2 := within_le (x := s.d) (show (0 : Int) ≤ 30 by omega)
  have b3 := within_le (x := s.u) (show (0 : Int) ≤ 30 by omega)
  have b4 := within_le (x := s.h) (show (0 : Int) ≤ 30 by omega)
  exact ⟨ok_say hT hN hx (by omega) b2 b3 b4, own_say hO hx (hT.rel 0 x hx).2.2.1 (by omega) b2 b3 b4, hQ.set _⟩
theorem ViewsLate_ok {rep : Int} {o o2 : Option Addr} {Y Z : List Sy} {cap cap2 : Nat} {w : World} (hrep : i64 rep) (hR : (syRes o Y).R w) (hR2 : (syRes o2 Z).R w) (hY : ∀ y ∈ Y, y.good) (hZ : ∀ y ∈ Z, y.good) (hl : Y.length ≤ 9223372036854775806) (hl2 : Z.length ≤ 9223372036854775806) :
    Calls Try.prog 8 #[.int .i64 rep, .slice o Y.length cap, .slice o2 Z.length cap2] w fun e w' => e = .returned (.bool true) ∧ Frm [] w w' := by
  have hI := Inv.nil (P := Try.prog) (N := 168) (S := []) (os := []) w
  have hS1 : ∀ w1, Frm [] w w1 → (syRes o Y).R w1 := fun w1 hf => (syRes o Y).stable _ _ (fun k hk => hf.block k (rd_lt hR k hk) (by simp)) hR
  have hS2 : ∀ w1, Frm [] w w1 → (syRes o2 Z).R w1 := fun w1 hf => (syRes o2 Z).stable _ _ (fun k hk => hf.block k (rd_lt hR2 k hk) (by simp)) hR2
  have bn := within_le (x := rep) (show (2 : Int) ≤ 8 by omega)
  obtain ⟨n, hn⟩ := Int.eq_ofNat_of_zero_le (show 0 ≤ withinF rep 2 8 by omega)
  rw [hn] at bn
  have hn2 : 2 ≤ n ∧ n ≤ 8 := by omega
  refine calls_sm (cx 168 [] [] w) (vals := [.int .i64 rep, .raw (.slice o Y.length cap), .raw (.slice o2 Z.length cap2)]) mixed Try.func8 rfl rfl rfl hI rfl (st rfl ?_); conv => arg 3; whnf
  refine gw ?_
  refine n_sameP (.bool true) rfl rfl rfl (fun _ w1 hp1 hI1 => alive_ok w1) ?_; (refine gs ?_)
  refine gw ?_
  refine n_sameP (.int .i64 (n : Nat)) rfl rfl rfl (fun _ w1 hp1 hI1 => by rw [← hn]; exact within_ok rep 2 8 hrep (by omega) (by omega) (by omega) w1) ?_; (refine gs ?_)
  refine gw ?_
  refine n_callN (fun y : Nat × Option Addr × Nat × List Rp => tkRes y.1 (Tk.new y.2.1 y.2.2.1 y.2.2.2)) 41 (fun y => .raw (pV y.1)) (fun y => pV y.1) (fun y => y.2.2.2.length = n ∧ FreshX n y.2.2.2 ∧ ∃ g, y.2.1 = some ⟨g, 0, none⟩) rfl rfl rfl (fun _ => rfl) (fun w1 hI1 => begun_ok' hn2 w1) ?_
  rintro ⟨t, vo, vc, X0⟩ ⟨hX0l, hX0, gv, hgv⟩ _
  dsimp only at hX0l hX0 hgv ⊢
  have hT0 : (Tk.new vo vc X0).ok n 0 := new_tk_ok (N := 0) hn2 hX0l hX0
  have hO0 : Own (Tk.new vo vc X0).X := (fresh_own hX0).1
  have hQ0 : Quiet (Tk.new vo vc X0).X := (fresh_own hX0).2
  have hv0 : (Tk.new vo vc X0).vo = some ⟨gv, 0, none⟩ := hgv
  generalize Tk.new vo vc X0 = T0 at hT0 hO0 hQ0 hv0
  (refine gs ?_)
  refine gw ?_
  refine n_loopJ (k := 0) (σ := Nat × Tk) (fun s => [(1, .raw (.slice o Y.length cap)), (2, .raw (.slice o2 Z.length cap2)), (9, .raw (pV t)), (10, .int .i64 (s.1 : Nat))]) (fun s => [⟨41, [.res (tkRes t s.2)], true⟩]) (fun s => s.1 ≤ Y.length ∧ s.1 ≤ 200 ∧ s.2.ok n s.1 ∧ Own s.2.X ∧ Quiet s.2.X ∧ s.2.vo = some ⟨gv, 0, none⟩) (fun _ => True) (fun s => Y.length - s.1) (0, T0) mixed rfl ⟨by simp, by simp, hT0, hO0, hQ0, hv0⟩ (fun _ _ => rfl) (fun _ h => h) rfl (by (repeat (first | exact trivial | refine ⟨⟨rfl, rfl⟩, ?_⟩))) (fun s _ => ⟨by (repeat (first | exact trivial | refine ⟨⟨_, rfl⟩, ?_⟩)), by (repeat (first | exact trivial | refine ⟨⟨_, rfl⟩, ?_⟩))⟩) (fun s hs => ?_) (fun s hs _ => ?_)
  · obtain ⟨i, T⟩ := s
    obtain ⟨hi1, hi2, hT, hO, hQ, hvo⟩ := hs
    dsimp only at hi1 hi2 hT hO hQ hvo ⊢
    (refine gs ?_)
    by_cases hil : i < (Y).length
    · by_cases h4 : i < 200
      · have ei : IntKind.i64.wrap ((i : Int) + 1) = ((i + 1 : Nat) : Int) := by rw [w64 (by omega) (by omega)]; simp
        have h4' : (i : Int) < 200 := by omega
        have hx : (Y)[i]? = some (Y)[i] := List.getElem?_eq_getElem _
        have hg := hY _ (List.getElem_mem hil)
        generalize (Y)[i] = x at hx hg
        obtain ⟨ad, rfl⟩ := rd_some sy_len (by omega) hR (show 0 < (Y).length by omega)
        (repeat ((first | refine n_must rfl ?_ | refine n_chk (drawF_ok (by decide +kernel)) ?_ | refine n_same rfl ?_ | ((first | refine n_must ?_ ?_ | refine n_brT ?_ ?_); (focus (first | (simp [hil, h4']; done) | (simp [hil, h4']; omega) | (simp only [hil, h4']; simp; done)))) | (refine n_brF ?_ ?_; (focus (first | (simp [hil, h4']; done) | (simp [hil, h4']; omega) | (simp only [hil, h4']; simp; done)))) | refine n_must (by (with_reducible refine and_shape ?_) <;> kernel_rfl) ?_); (refine gs ?_)))
        (refine n_ldA (.agg x.sv) rfl (by first | exact trivial | rfl) rfl (fun _ w1 _ hI1 => sy_load (hS1 _ hI1.frm) hx rfl) ?_; (refine gs ?_))
        refine gw ?_
        refine n_callR (Y := Rp × (Nat → Option Addr × Nat)) 0 (fun y => tkRes t ((T).said y (withinF x.nm 0 3).toNat (withinF x.d 0 30) (withinF x.u 0 30) (withinF x.h 0 30))) (fun _ => .bool true) (fun _ => .bool true) (fun y => (T).X[0]? = some y.1) rfl rfl (fun _ => rfl) rfl rfl rfl (fun _ w1 _ hI1 hR1 => ?_) ?_
        · refine (step0_ok (y := ⟨0, 0, x.a, x.nm, x.d, x.u, x.h⟩) hT (by omega) ⟨i64_0, i64_0, hg.a, hg.nm, hg.d, hg.u, hg.h⟩ (within0 _) hR1).mono fun e w' ⟨z, S', he, hz, hP⟩ => ⟨(z, S'), he, ?_, ?_⟩
          · dsimp only at hz ⊢
            rw [within0] at hz
            exact hz
          · dsimp only at hP ⊢
            rw [within0] at hP
            exact hP
        rintro ⟨z, S'⟩ hz
        dsimp only at hz
        obtain ⟨hT', hO', hQ'⟩ := said_step hT (by omega) hO hQ hz S' x
        (refine gs ?_)
        refine gw ?_
        exact n_againJ fun ids' w' hp hI' => ⟨((i) + 1, (T).said (z, S') (withinF x.nm 0 3).toNat (withinF x.d 0 30) (withinF x.u 0 30) (withinF x.h 0 30)), ⟨by dsimp only; omega, by dsimp only; omega, hT', hO', hQ', hvo⟩, by dsimp only; omega, (by (repeat (first | exact trivial | refine ⟨⟨rfl, rfl⟩, ?_⟩ | refine ⟨⟨rfl, congrArg (SV.int .i64) ei⟩, ?_⟩))), _, hI'⟩
      · have h4' : ¬ (i : Int) < 200 := by omega
        (repeat ((first | refine n_must rfl ?_ | refine n_chk (drawF_ok (by decide +kernel)) ?_ | refine n_same rfl ?_ | ((first | refine n_must ?_ ?_ | refine n_brT ?_ ?_); (focus (first | (simp [hil, h4']; done) | (simp [hil, h4']; omega) | (simp only [hil, h4']; simp; done)))) | (refine n_brF ?_ ?_; (focus (first | (simp [hil, h4']; done) | (simp [hil, h4']; omega) | (simp only [hil, h4']; simp; done)))) | refine n_must (by (with_reducible refine and_shape ?_) <;> kernel_rfl) ?_); (refine gs ?_)))
        exact n_exitJ fun ids' w' hp hI' => ⟨(i, T), ⟨⟨hi1, hi2, hT, hO, hQ, hvo⟩, trivial⟩, (by (repeat (first | exact trivial | refine ⟨⟨rfl, rfl⟩, ?_⟩))), [], hI'⟩
    · (repeat ((first | refine n_must rfl ?_ | refine n_chk (drawF_ok (by decide +kernel)) ?_ | refine n_same rfl ?_ | ((first | refine n_must ?_ ?_ | refine n_brT ?_ ?_); (focus (first | (simp [hil]; done) | (simp [hil]; omega) | (simp only [hil]; simp; done)))) | (refine n_brF ?_ ?_; (focus (first | (simp [hil]; done) | (simp [hil]; omega) | (simp only [hil]; simp; done)))) | refine n_must (by (with_reducible refine and_shape ?_) <;> kernel_rfl) ?_); (refine gs ?_)))
      exact n_exitJ fun ids' w' hp hI' => ⟨(i, T), ⟨⟨hi1, hi2, hT, hO, hQ, hvo⟩, trivial⟩, (by (repeat (first | exact trivial | refine ⟨⟨rfl, rfl⟩, ?_⟩))), [], hI'⟩
  obtain ⟨i1, T1⟩ := s
  obtain ⟨_, hi1, hT1, hO1, hQ1, hvo1⟩ := hs
  dsimp only at hi1 hT1 hO1 hQ1 hvo1 ⊢
  have hT1 : T1.ok n 200 := ⟨hT1.len, hT1.nn, fun i x hx => by obtain ⟨a, b, c, d⟩ := hT1.rel i x hx; exact ⟨a, b, c, by omega⟩⟩
  have hl1 := hT1.len
  have hx0 : T1.X[0]? = some (T1.X[0]'(by rw [hT1.len]; omega)) := List.getElem?_eq_getElem _
  generalize (T1.X[0]'(by rw [hT1.len]; omega)) = x0 at hx0
  obtain ⟨hv0, hs0, hm0, ha0⟩ := hT1.rel 0 x0 hx0
  (refine gs ?_)
  refine gw ?_
  (refine n_ldA (.raw (.slice (some ⟨gv, 0, none⟩) (T1).X.length (T1).vc)) rfl (by first | exact trivial | rfl) rfl (fun _ w1 _ hI1 => (by rw [← hvo1]; exact load_cell aggVp (tk_v (memRes_res (hI1.res 0 rfl rfl) 0 rfl rfl) rfl))) ?_; (refine gs ?_))
  refine gw ?_
  (refine n_ldA (.raw (pV (x0).v)) rfl (by first | exact trivial | rfl) rfl (fun _ w1 _ hI1 => load_cell aggPv (rowRes_cell (hvo1 ▸ memRes_res (hI1.res 0 rfl rfl) 1 rfl rfl) (by show (ptrs (T1).X)[0]? = _; rw [List.getElem?_map, hx0]; rfl))) ?_; (refine gs ?_))
  refine gw ?_
  have hdf1 := dig_four hv0 hs0
  generalize hDL1 : digU (x0).r 4 = L1 at hdf1
  refine n_callN (fun y : Option Addr × Nat => vRow y.1 (L1).length y.2 (vws L1)) 49 (fun y => .raw (.slice y.1 (L1).length y.2)) (fun y => .slice y.1 (L1).length y.2) (fun y => 0 < (L1).length → ∃ g, y.1 = some ⟨g, 0, none⟩) rfl rfl rfl (fun _ => rfl) (fun w1 hI1 => hdf1 ▸ dig_row9 hv0 (by omega) (tk_res (hI1.res 0 rfl rfl) hx0)) ?_
  rintro ⟨l1, c1⟩ _ _
  dsimp only
  (refine gs ?_)
  refine gw ?_
  refine n_loopJ (k := 2) (σ := Nat × Tk) (fun s => [(2, .raw (.slice o2 Z.length cap2)), (9, .raw (pV t)), (12, .raw (.slice l1 L1.length c1)), (13, .int .i64 (s.1 : Nat))]) (fun s => [⟨41, [.res (tkRes t s.2)], true⟩, ⟨49, [.res (vRow l1 L1.length c1 (vws L1))], true⟩]) (fun s => s.1 ≤ Z.length ∧ s.1 ≤ 200 ∧ s.2.ok n (200 + s.1) ∧ Own s.2.X ∧ Quiet s.2.X ∧ s.2.vo = some ⟨gv, 0, none⟩ ∧ ∃ x, s.2.X[0]? = some x ∧ Newer x0.r x.r) (fun _ => True) (fun s => Z.length - s.1) (0, T1) mixed rfl ⟨by simp, by simp, hT1, hO1, hQ1, hvo1, x0, hx0, Newer.refl _⟩ (fun _ _ => rfl) (fun _ h => h) rfl (by (repeat (first | exact trivial | refine ⟨⟨rfl, rfl⟩, ?_⟩))) (fun s _ => ⟨by (repeat (first | exact trivial | refine ⟨⟨_, rfl⟩, ?_⟩)), by (repeat (first | exact trivial | refine ⟨⟨_, rfl⟩, ?_⟩))⟩) (fun s hs => ?_) (fun s hs _ => ?_)
  · obtain ⟨i, T⟩ := s
    obtain ⟨hi1, hi2, hT, hO, hQ, hvo, hNw⟩ := hs
    dsimp only at hi1 hi2 hT hO hQ hvo hNw ⊢
    (refine gs ?_)
    by_cases hil : i < (Z).length
    · by_cases h4 : i < 200
      · have ei : IntKind.i64.wrap ((i : Int) + 1) = ((i + 1 : Nat) : Int) := by rw [w64 (by omega) (by omega)]; simp
        have h4' : (i : Int) < 200 := by omega
        have hx : (Z)[i]? = some (Z)[i] := List.getElem?_eq_getElem _
        have hg := hZ _ (List.getElem_mem hil)
        generalize (Z)[i] = x at hx hg
        obtain ⟨ad, rfl⟩ := rd_some sy_len (by omega) hR2 (show 0 < (Z).length by omega)
        (repeat ((first | refine n_must rfl ?_ | refine n_chk (drawF_ok (by decide +kernel)) ?_ | refine n_same rfl ?_ | ((first | refine n_must ?_ ?_ | refine n_brT ?_ ?_); (focus (first | (simp [hil, h4']; done) | (simp [hil, h4']; omega) | (simp only [hil, h4']; simp; done)))) | (refine n_brF ?_ ?_; (focus (first | (simp [hil, h4']; done) | (simp [hil, h4']; omega) | (simp only [hil, h4']; simp; done)))) | refine n_must (by (with_reducible refine and_shape ?_) <;> kernel_rfl) ?_); (refine gs ?_)))
        (refine n_ldA (.agg x.sv) rfl (by first | exact trivial | rfl) rfl (fun _ w1 _ hI1 => sy_load (hS2 _ hI1.frm) hx rfl) ?_; (refine gs ?_))
        refine gw ?_
        refine n_callR (Y := Rp × (Nat → Option Addr × Nat)) 0 (fun y => tkRes t ((T).said y (withinF x.nm 0 3).toNat (withinF x.d 0 30) (withinF x.u 0 30) (withinF x.h 0 30))) (fun _ => .bool true) (fun _ => .bool true) (fun y => (T).X[0]? = some y.1) rfl rfl (fun _ => rfl) rfl rfl rfl (fun _ w1 _ hI1 hR1 => ?_) ?_
        · refine (step0_ok (y := ⟨0, 0, x.a, x.nm, x.d, x.u, x.h⟩) hT (by omega) ⟨i64_0, i64_0, hg.a, hg.nm, hg.d, hg.u, hg.h⟩ (within0 _) hR1).mono fun e w' ⟨z, S', he, hz, hP⟩ => ⟨(z, S'), he, ?_, ?_⟩
          · dsimp only at hz ⊢
            rw [within0] at hz
            exact hz
          · dsimp only at hP ⊢
            rw [within0] at hP
            exact hP
        rintro ⟨z, S'⟩ hz
        dsimp only at hz
        obtain ⟨hT', hO', hQ'⟩ := said_step hT (by omega) hO hQ hz S' x
        (refine gs ?_)
        refine gw ?_
        exact n_againJ fun ids' w' hp hI' => ⟨((i) + 1, (T).said (z, S') (withinF x.nm 0 3).toNat (withinF x.d 0 30) (withinF x.u 0 30) (withinF x.h 0 30)), ⟨by dsimp only; omega, by dsimp only; omega, hT', hO', hQ', hvo, newer_next hNw hz _ _ _ _⟩, by dsimp only; omega, (by (repeat (first | exact trivial | refine ⟨⟨rfl, rfl⟩, ?_⟩ | refine ⟨⟨rfl, congrArg (SV.int .i64) ei⟩, ?_⟩))), _, hI'⟩
      · have h4' : ¬ (i : Int) < 200 := by omega
        (repeat ((first | refine n_must rfl ?_ | refine n_chk (drawF_ok (by decide +kernel)) ?_ | refine n_same rfl ?_ | ((first | refine n_must ?_ ?_ | refine n_brT ?_ ?_); (focus (first | (simp [hil, h4']; done) | (simp [hil, h4']; omega) | (simp only [hil, h4']; simp; done)))) | (refine n_brF ?_ ?_; (focus (first | (simp [hil, h4']; done) | (simp [hil, h4']; omega) | (simp only [hil, h4']; simp; done)))) | refine n_must (by (with_reducible refine and_shape ?_) <;> kernel_rfl) ?_); (refine gs ?_)))
        exact n_exitJ fun ids' w' hp hI' => ⟨(i, T), ⟨⟨hi1, hi2, hT, hO, hQ, hvo, hNw⟩, trivial⟩, (by (repeat (first | exact trivial | refine ⟨⟨rfl, rfl⟩, ?_⟩))), [], hI'⟩
    · (repeat ((first | refine n_must rfl ?_ | refine n_chk (drawF_ok (by decide +kernel)) ?_ | refine n_same rfl ?_ | ((first | refine n_must ?_ ?_ | refine n_brT ?_ ?_); (focus (first | (simp [hil]; done) | (simp [hil]; omega) | (simp only [hil]; simp; done)))) | (refine n_brF ?_ ?_; (focus (first | (simp [hil]; done) | (simp [hil]; omega) | (simp only [hil]; simp; done)))) | refine n_must (by (with_reducible refine and_shape ?_) <;> kernel_rfl) ?_); (refine gs ?_)))
      exact n_exitJ fun ids' w' hp hI' => ⟨(i, T), ⟨⟨hi1, hi2, hT, hO, hQ, hvo, hNw⟩, trivial⟩, (by (repeat (first | exact trivial | refine ⟨⟨rfl, rfl⟩, ?_⟩))), [], hI'⟩
  obtain ⟨i2, T2⟩ := s
  obtain ⟨_, hi2, hT2, hO2, hQ2, hvo2, x1, hx1, hNw⟩ := hs
  dsimp only at hi2 hT2 hO2 hQ2 hvo2 hx1 ⊢
  have hT2 : T2.ok n 400 := ⟨hT2.len, hT2.nn, fun i x hx => by obtain ⟨a, b, c, d⟩ := hT2.rel i x hx; exact ⟨a, b, c, by omega⟩⟩
  have hl2 := hT2.len
  obtain ⟨hv1, hs1, hm1, ha1⟩ := hT2.rel 0 x1 hx1
  (refine gs ?_)
  refine gw ?_
  (refine n_ldA (.raw (.slice (some ⟨gv, 0, none⟩) (T2).X.length (T2).vc)) rfl (by first | exact trivial | rfl) rfl (fun _ w1 _ hI1 => (by rw [← hvo2]; exact load_cell aggVp (tk_v (memRes_res (hI1.res 0 rfl rfl) 0 rfl rfl) rfl))) ?_; (refine gs ?_))
  refine gw ?_
  (refine n_ldA (.raw (pV (x1).v)) rfl (by first | exact trivial | rfl) rfl (fun _ w1 _ hI1 => load_cell aggPv (rowRes_cell (hvo2 ▸ memRes_res (hI1.res 0 rfl rfl) 1 rfl rfl) (by show (ptrs (T2).X)[0]? = _; rw [List.getElem?_map, hx1]; rfl))) ?_; (refine gs ?_))
  refine gw ?_
  have hdf2 := dig_four hv1 hs1
  generalize hDL2 : digU (x1).r 4 = L2 at hdf2
  refine n_callN (fun y : Option Addr × Nat => vRow y.1 (L2).length y.2 (vws L2)) 49 (fun y => .raw (.slice y.1 (L2).length y.2)) (fun y => .slice y.1 (L2).length y.2) (fun y => 0 < (L2).length → ∃ g, y.1 = some ⟨g, 0, none⟩) rfl rfl rfl (fun _ => rfl) (fun w1 hI1 => hdf2 ▸ dig_row9 hv1 (by omega) (tk_res (hI1.res 0 rfl rfl) hx1)) ?_
  rintro ⟨l2, c2⟩ hg2 _
  dsimp only at hg2 ⊢
  (refine gs ?_)
  refine gw ?_
  have hy1 : T2.X[1]? = some (T2.X[1]'(by rw [hT2.len]; omega)) := List.getElem?_eq_getElem _
  generalize (T2.X[1]'(by rw [hT2.len]; omega)) = y1 at hy1
  obtain ⟨hvy, hsy, hmy, hay⟩ := hT2.rel 1 y1 hy1
  have hq1 := hQ2 1 y1 hy1 (by omega)
  have hny := hvy.rn
  have r1 : RisV L2 := hDL2 ▸ digU_ris x1.r
  have r2 : ∀ v ∈ L2, rightB v = true := hDL2 ▸ digU_right hO2 hx1
  have r3 : L2.length ≤ 4 := hDL2 ▸ digU_len x1.r 4
  have r4 : ∀ v ∈ L2, ∃ j, j < 4 ∧ v.nm = nmK j := hDL2 ▸ digU_nms x1.r
  have q1 : RisV L1 := hDL1 ▸ digU_ris x0.r
  have q2 : ∀ v ∈ L1, rightB v = true := hDL1 ▸ digU_right hO1 hx0
  have q3 : L1.length ≤ 4 := hDL1 ▸ digU_len x0.r 4
  have q4 : ∀ v ∈ L1, ∃ j, j < 4 ∧ v.nm = nmK j := hDL1 ▸ digU_nms x0.r
  have htk := take_new hsy (k := 0) (L := L2) ⟨by omega, by omega, by omega⟩ r3 r1 r2 (by rw [hq1]; simp)
  (refine n_ldA (.raw (.slice (some ⟨gv, 0, none⟩) (T2).X.length (T2).vc)) rfl (by first | exact trivial | rfl) rfl (fun _ w1 _ hI1 => (by rw [← hvo2]; exact load_cell aggVp (tk_v (memRes_res (hI1.res 0 rfl rfl) 0 rfl rfl) rfl))) ?_; (refine gs ?_))
  refine gw ?_
  (refine n_ldA (.raw (pV (y1).v)) rfl (by first | exact trivial | rfl) rfl (fun _ w1 _ hI1 => load_cell aggPv (rowRes_cell (hvo2 ▸ memRes_res (hI1.res 0 rfl rfl) 1 rfl rfl) (by show (ptrs (T2).X)[1]? = _; rw [List.getElem?_map, hy1]; rfl))) ?_; (refine gs ?_))
  refine gw ?_
  refine n_callR (Y := Unit) 0 (fun _ => tkRes t { T2 with X := T2.X.set 1 (y1.taken 0 L2) }) (fun _ => .tup [.int .i64 (L2.length : Nat), .int .i64 0]) (fun _ => .tuple #[.int .i64 (L2.length : Nat), .int .i64 0]) (fun _ => True) rfl rfl (fun _ => rfl) rfl rfl rfl (fun _ w1 _ hI1 hR1 =>
    (tk_take hT2 hR1 hy1 0 i64_0 (L := L2) rfl c2 (rd_of_row (hI1.res 2 rfl rfl)) (fun y hy hy2 => hI1.res_res 0 2 (by decide) rfl rfl rfl rfl y (tk_in hR1 hy1 y hy) (rd_inR hy2)) (by omega)).mono fun e w' ⟨he, hP⟩ => ⟨(), by rw [he, htk], trivial, hP⟩) ?_
  intro _ _
  have hT3 : ({ T2 with X := T2.X.set 1 (y1.taken 0 L2) } : Tk).ok n 401 := ok_take (k := 0) hT2 hy1 (by omega) r3 r4
  have hy2 : ({ T2 with X := T2.X.set 1 (y1.taken 0 L2) } : Tk).X[1]? = some (y1.taken 0 L2) := List.getElem?_set_self (by rw [hl2]; omega)
  have hr2 : (y1.taken 0 L2).r.All = [] ++ L2.map fun v => ((0 : Int), v) := by
    show (y1.r.take 0 L2).1.All = _
    rw [htk, hq1]
  have hvo3 : ({ T2 with X := T2.X.set 1 (y1.taken 0 L2) } : Tk).vo = some ⟨gv, 0, none⟩ := hvo2
  generalize ({ T2 with X := T2.X.set 1 (y1.taken 0 L2) } : Tk) = T3 at hT3 hy2 hvo3
  generalize (y1.taken 0 L2) = y2 at hy2 hr2
  have o1 : ∀ x ∈ L1, x.ver ≤ (lastF y2.r.All 0 x.nm).ver := by rw [hr2, ← hDL1, ← hDL2]; exact dig_older hNw hs0 hs1
  have o2 : ∀ x ∈ L2, x.ver ≤ (lastF y2.r.All 0 x.nm).ver := by rw [hr2, ← hDL2]; exact dig_older (Newer.refl _) hs1 hs1
  have ab : ∀ x ∈ L2, rAboutD y2.r.All x.nm n = x.d ∧ rAboutB y2.r.All x.nm n = true := fun x hx => about_one (by rw [hr2]; exact lastF_in r1 hx _) (fun i hi => by
    rw [hr2]
    refine lastF_none fun e he h => ?_
    obtain ⟨v, _, rfl⟩ := List.mem_map.1 he
    have := h.1
    dsimp only at this
    omega) (right_ver (r2 x hx)) n (by omega)
  (refine gs ?_)
  refine gw ?_
  refine n_loopJ (k := 4) (σ := Nat × Tk) (fun s => [(9, .raw (pV t)), (12, .raw (.slice l1 L1.length c1)), (15, .raw (.slice l2 L2.length c2)), (18, .int .i64 (s.1 : Nat))]) (fun s => [⟨41, [.res (tkRes t s.2)], true⟩, ⟨49, [.res (vRow l1 L1.length c1 (vws L1))], true⟩, ⟨49, [.res (vRow l2 L2.length c2 (vws L2))], true⟩]) (fun s => s.1 ≤ 4 ∧ s.2.ok n (401 + s.1) ∧ s.2.vo = some ⟨gv, 0, none⟩ ∧ ∃ y, s.2.X[1]? = some y ∧ y.r = y2.r) (fun _ => True) (fun s => 4 - s.1) (0, T3) mixed rfl ⟨by simp, hT3, hvo3, y2, hy2, rfl⟩ (fun _ _ => rfl) (fun _ h => h) rfl (by (repeat (first | exact trivial | refine ⟨⟨rfl, rfl⟩, ?_⟩))) (fun s _ => ⟨by (repeat (first | exact trivial | refine ⟨⟨_, rfl⟩, ?_⟩)), by (repeat (first | exact trivial | refine ⟨⟨_, rfl⟩, ?_⟩))⟩) (fun s hs => ?_) (fun s hs _ => ?_)
  · obtain ⟨i, T⟩ := s
    obtain ⟨hi, hT, hvo, y, hy, hyr⟩ := hs
    dsimp only at hi hT hvo hy ⊢
    have hlT := hT.len
    obtain ⟨hv, hs, hm, ha⟩ := hT.rel 1 y hy
    have hnr := hv.rn
    (refine gs ?_)
    by_cases h4 : i < 4
    · have ei : IntKind.i64.wrap ((i : Int) + 1) = ((i + 1 : Nat) : Int) := by rw [w64 (by omega) (by omega)]; simp
      have htm : (i : Int).tmod 2 = ((i % 2 : Nat) : Int) := by rw [Int.tmod_eq_emod_of_nonneg (by omega)]; simp
      by_cases he : i % 2 = 0
      · rw [he] at htm
        (repeat ((first | refine n_must rfl ?_ | refine n_chk (drawF_ok (by decide +kernel)) ?_ | refine n_same rfl ?_ | ((first | refine n_must ?_ ?_ | refine n_brT ?_ ?_); (focus (first | (simp [h4, htm]; done) | (simp [h4, htm]; omega) | (simp only [h4, htm]; simp; done)))) | (refine n_brF ?_ ?_; (focus (first | (simp [h4, htm]; done) | (simp [h4, htm]; omega) | (simp only [h4, htm]; simp; done)))) | refine n_must (by (with_reducible refine and_shape ?_) <;> kernel_rfl) ?_); (refine gs ?_)))
        have hto := take_old hs (k := 0) (L := L2) ⟨by omega, by omega, by omega⟩ r3 r1 r2 (hyr ▸ o2)
        (refine n_ldA (.raw (.slice (some ⟨gv, 0, none⟩) (T).X.length (T).vc)) rfl (by first | exact trivial | rfl) rfl (fun _ w1 _ hI1 => (by rw [← hvo]; exact load_cell aggVp (tk_v (memRes_res (hI1.res 0 rfl rfl) 0 rfl rfl) rfl))) ?_; (refine gs ?_))
        refine gw ?_
        (refine n_ldA (.raw (pV (y).v)) rfl (by first | exact trivial | rfl) rfl (fun _ w1 _ hI1 => load_cell aggPv (rowRes_cell (hvo ▸ memRes_res (hI1.res 0 rfl rfl) 1 rfl rfl) (by show (ptrs (T).X)[1]? = _; rw [List.getElem?_map, hy]; rfl))) ?_; (refine gs ?_))
        refine gw ?_
        refine n_callR (Y := Unit) 0 (fun _ => tkRes t { T with X := T.X.set 1 (y.taken 0 L2) }) (fun _ => .tup [.int .i64 0, .int .i64 0]) (fun _ => .tuple #[.int .i64 0, .int .i64 0]) (fun _ => True) rfl rfl (fun _ => rfl) rfl rfl rfl (fun _ w1 _ hI1 hR1 =>
          (tk_take hT hR1 hy 0 i64_0 (L := L2) rfl c2 (rd_of_row (hI1.res 2 rfl rfl)) (fun z hz hz2 => hI1.res_res 0 2 (by decide) rfl rfl rfl rfl z (tk_in hR1 hy z hz) (rd_inR hz2)) (by omega)).mono fun e w' ⟨he, hP⟩ => ⟨(), by rw [he, hto], trivial, hP⟩) ?_
        intro _ _
        have hT' : ({ T with X := T.X.set 1 (y.taken 0 L2) } : Tk).ok n (401 + (i + 1)) := ok_take (k := 0) hT hy (by omega) r3 r4
        have hy' : ({ T with X := T.X.set 1 (y.taken 0 L2) } : Tk).X[1]? = some (y.taken 0 L2) := List.getElem?_set_self (by rw [hlT]; omega)
        have hyr' : (y.taken 0 L2).r = y2.r := by
          show (y.r.take 0 L2).1 = _
          rw [hto, hyr]
        have hvo' : ({ T with X := T.X.set 1 (y.taken 0 L2) } : Tk).vo = some ⟨gv, 0, none⟩ := hvo
        generalize ({ T with X := T.X.set 1 (y.taken 0 L2) } : Tk) = T' at hT' hy' hvo'
        generalize (y.taken 0 L2) = y' at hy' hyr'
        have hlT' := hT'.len
        obtain ⟨hv', hs', hm', ha'⟩ := hT'.rel 1 y' hy'
        (refine gs ?_)
        refine gw ?_
        refine n_loop (σ := Nat) (fun k => [(9, .raw (pV t)), (12, .raw (.slice l1 L1.length c1)), (15, .raw (.slice l2 L2.length c2)), (18, .int .i64 (i : Nat)), (22, .int .i64 (k : Nat))]) (fun k => [⟨41, [.res (tkRes t T')], true⟩, ⟨49, [.res (vRow l1 L1.length c1 (vws L1))], true⟩, ⟨49, [.res (vRow l2 L2.length c2 (vws L2))], true⟩]) (fun k => k ≤ L2.length) (fun k => L2.length - k) 0 mixed (by omega) (fun _ _ => rfl) rfl (by (repeat (first | exact trivial | refine ⟨⟨rfl, rfl⟩, ?_⟩))) (fun s _ => ⟨by (repeat (first | exact trivial | refine ⟨⟨_, rfl⟩, ?_⟩)), by (repeat (first | exact trivial | refine ⟨⟨_, rfl⟩, ?_⟩))⟩) fun k hk => ?_
        (refine gs ?_)
        by_cases hkl : k < L2.length
        · have ek : IntKind.i64.wrap ((k : Int) + 1) = ((k + 1 : Nat) : Int) := by rw [w64 (by omega) (by omega)]; simp
          have hxk : L2[k]? = some L2[k] := List.getElem?_eq_getElem _
          have hxm := List.getElem_mem hkl
          obtain ⟨ab1, ab2⟩ := ab _ hxm
          have hrt := r2 _ hxm
          generalize L2[k] = x at hxk hxm ab1 ab2 hrt
          obtain ⟨g2, rfl⟩ := hg2 (by omega)
          have hxd : wr x.d = x.d := by
            unfold rightB at hrt
            rw [Bool.and_eq_true] at hrt
            have := of_decide_eq_true hrt.2
            dsimp only [Vw.lin] at this
            exact w64 (by omega) (by omega)
          have hxn : x.nm.size ≤ maxLen := Nat.le_trans (right_len hrt) (by decide)
          (repeat ((first | refine n_must rfl ?_ | refine n_chk (drawF_ok (by decide +kernel)) ?_ | refine n_same rfl ?_ | ((first | refine n_must ?_ ?_ | refine n_brT ?_ ?_); (focus (first | (simp [hkl]; done) | (simp [hkl]; omega) | (simp only [hkl]; simp; done)))) | (refine n_brF ?_ ?_; (focus (first | (simp [hkl]; done) | (simp [hkl]; omega) | (simp only [hkl]; simp; done)))) | refine n_must (by (with_reducible refine and_shape ?_) <;> kernel_rfl) ?_); (refine gs ?_)))
          (refine n_ldA (.raw (.slice (some ⟨gv, 0, none⟩) (T').X.length (T').vc)) rfl (by first | exact trivial | rfl) rfl (fun _ w1 _ hI1 => (by rw [← hvo']; exact load_cell aggVp (tk_v (memRes_res (hI1.res 0 rfl rfl) 0 rfl rfl) rfl))) ?_; (refine gs ?_))
          refine gw ?_
          (refine n_ldA (.raw (pV (y').v)) rfl (by first | exact trivial | rfl) rfl (fun _ w1 _ hI1 => load_cell aggPv (rowRes_cell (hvo' ▸ memRes_res (hI1.res 0 rfl rfl) 1 rfl rfl) (by show (ptrs (T').X)[1]? = _; rw [List.getElem?_map, hy']; rfl))) ?_; (refine gs ?_))
          refine gw ?_
          (refine n_ldA (.str x.nm) rfl (by first | exact trivial | rfl) rfl (fun _ w1 _ hI1 => load_cell aggStr (row_at vw_len (hI1.res 2 rfl rfl) hxk (j := 0) (by omega) rfl (by rw [Int.toNat_natCast, add_add]; rfl))) ?_; (refine gs ?_))
          refine gw ?_
          refine n_sameP (.tup [.int .i64 x.d, .bool true]) rfl rfl rfl (fun _ w1 hp1 hI1 => (About_ok (tk_res (hI1.res 0 rfl rfl) hy') x.nm hxn).mono fun e w' ⟨he, hf⟩ => ⟨by
                      obtain ⟨a1, a2⟩ := about_like hv' (tk_res (hI1.res 0 rfl rfl) hy').2.1.nodup x.nm
                      rw [he, a1, a2, hyr', ab1, ab2, hxd], hf⟩) ?_; (refine gs ?_)
          refine gw ?_
          (refine n_ldA (.int .i64 x.d) rfl (by first | exact trivial | rfl) rfl (fun _ w1 _ hI1 => load_cell aggInt (row_at vw_len (hI1.res 2 rfl rfl) hxk (j := 4) (by omega) rfl (by rw [Int.toNat_natCast, add_add, add_add]; rfl))) ?_; (refine gs ?_))
          refine gw ?_
          exact n_again ⟨k + 1, by omega, by omega, (by (repeat (first | exact trivial | refine ⟨⟨rfl, rfl⟩, ?_⟩ | refine ⟨⟨rfl, congrArg (SV.int .i64) ek⟩, ?_⟩))), ⟨_, rfl⟩⟩
        · obtain rfl : k = L2.length := by omega
          (repeat ((first | refine n_must rfl ?_ | refine n_chk (drawF_ok (by decide +kernel)) ?_ | refine n_same rfl ?_ | ((first | refine n_must ?_ ?_ | refine n_brT ?_ ?_); (focus (first | (simp [hkl]; done) | (simp [hkl]; omega) | (simp only [hkl]; simp; done)))) | (refine n_brF ?_ ?_; (focus (first | (simp [hkl]; done) | (simp [hkl]; omega) | (simp only [hkl]; simp; done)))) | refine n_must (by (with_reducible refine and_shape ?_) <;> kernel_rfl) ?_); (refine gs ?_)))
          refine n_exit rfl ?_
          (refine gs ?_)
          refine gw ?_
          exact n_againJ fun ids' w' hp hI' => ⟨(i + 1, T'), ⟨by dsimp only; omega, hT', hvo', y', hy', hyr'⟩, by dsimp only; omega, (by (repeat (first | exact trivial | refine ⟨⟨rfl, rfl⟩, ?_⟩ | refine ⟨⟨rfl, congrArg (SV.int .i64) ei⟩, ?_⟩))), _, hI'⟩
      · rw [show i % 2 = 1 by omega] at htm
        (repeat ((first | refine n_must rfl ?_ | refine n_chk (drawF_ok (by decide +kernel)) ?_ | refine n_same rfl ?_ | ((first | refine n_must ?_ ?_ | refine n_brT ?_ ?_); (focus (first | (simp [h4, htm]; done) | (simp [h4, htm]; omega) | (simp only [h4, htm]; simp; done)))) | (refine n_brF ?_ ?_; (focus (first | (simp [h4, htm]; done) | (simp [h4, htm]; omega) | (simp only [h4, htm]; simp; done)))) | refine n_must (by (with_reducible refine and_shape ?_) <;> kernel_rfl) ?_); (refine gs ?_)))
        have hto := take_old hs (k := 0) (L := L1) ⟨by omega, by omega, by omega⟩ q3 q1 q2 (hyr ▸ o1)
        (refine n_ldA (.raw (.slice (some ⟨gv, 0, none⟩) (T).X.length (T).vc)) rfl (by first | exact trivial | rfl) rfl (fun _ w1 _ hI1 => (by rw [← hvo]; exact load_cell aggVp (tk_v (memRes_res (hI1.res 0 rfl rfl) 0 rfl rfl) rfl))) ?_; (refine gs ?_))
        refine gw ?_
        (refine n_ldA (.raw (pV (y).v)) rfl (by first | exact trivial | rfl) rfl (fun _ w1 _ hI1 => load_cell aggPv (rowRes_cell (hvo ▸ memRes_res (hI1.res 0 rfl rfl) 1 rfl rfl) (by show (ptrs (T).X)[1]? = _; rw [List.getElem?_map, hy]; rfl))) ?_; (refine gs ?_))
        refine gw ?_
        refine n_callR (Y := Unit) 0 (fun _ => tkRes t { T with X := T.X.set 1 (y.taken 0 L1) }) (fun _ => .tup [.int .i64 0, .int .i64 0]) (fun _ => .tuple #[.int .i64 0, .int .i64 0]) (fun _ => True) rfl rfl (fun _ => rfl) rfl rfl rfl (fun _ w1 _ hI1 hR1 =>
          (tk_take hT hR1 hy 0 i64_0 (L := L1) rfl c1 (rd_of_row (hI1.res 1 rfl rfl)) (fun z hz hz2 => hI1.res_res 0 1 (by decide) rfl rfl rfl rfl z (tk_in hR1 hy z hz) (rd_inR hz2)) (by omega)).mono fun e w' ⟨he, hP⟩ => ⟨(), by rw [he, hto], trivial, hP⟩) ?_
        intro _ _
        have hT' : ({ T with X := T.X.set 1 (y.taken 0 L1) } : Tk).ok n (401 + (i + 1)) := ok_take (k := 0) hT hy (by omega) q3 q4
        have hy' : ({ T with X := T.X.set 1 (y.taken 0 L1) } : Tk).X[1]? = some (y.taken 0 L1) := List.getElem?_set_self (by rw [hlT]; omega)
        have hyr' : (y.taken 0 L1).r = y2.r := by
          show (y.r.take 0 L1).1 = _
          rw [hto, hyr]
        have hvo' : ({ T with X := T.X.set 1 (y.taken 0 L1) } : Tk).vo = some ⟨gv, 0, none⟩ := hvo
        generalize ({ T with X := T.X.set 1 (y.taken 0 L1) } : Tk) = T' at hT' hy' hvo'
        generalize (y.taken 0 L1) = y' at hy' hyr'
        have hlT' := hT'.len
        obtain ⟨hv', hs', hm', ha'⟩ := hT'.rel 1 y' hy'
        (refine gs ?_)
        refine gw ?_
        refine n_loop (σ := Nat) (fun k => [(9, .raw (pV t)), (12, .raw (.slice l1 L1.length c1)), (15, .raw (.slice l2 L2.length c2)), (18, .int .i64 (i : Nat)), (22, .int .i64 (k : Nat))]) (fun k => [⟨41, [.res (tkRes t T')], true⟩, ⟨49, [.res (vRow l1 L1.length c1 (vws L1))], true⟩, ⟨49, [.res (vRow l2 L2.length c2 (vws L2))], true⟩]) (fun k => k ≤ L2.length) (fun k => L2.length - k) 0 mixed (by omega) (fun _ _ => rfl) rfl (by (repeat (first | exact trivial | refine ⟨⟨rfl, rfl⟩, ?_⟩))) (fun s _ => ⟨by (repeat (first | exact trivial | refine ⟨⟨_, rfl⟩, ?_⟩)), by (repeat (first | exact trivial | refine ⟨⟨_, rfl⟩, ?_⟩))⟩) fun k hk => ?_
        (refine gs ?_)
        by_cases hkl : k < L2.length
        · have ek : IntKind.i64.wrap ((k : Int) + 1) = ((k + 1 : Nat) : Int) := by rw [w64 (by omega) (by omega)]; simp
          have hxk : L2[k]? = some L2[k] := List.getElem?_eq_getElem _
          have hxm := List.getElem_mem hkl
          obtain ⟨ab1, ab2⟩ := ab _ hxm
          have hrt := r2 _ hxm
          generalize L2[k] = x at hxk hxm ab1 ab2 hrt
          obtain ⟨g2, rfl⟩ := hg2 (by omega)
          have hxd : wr x.d = x.d := by
            unfold rightB at hrt
            rw [Bool.and_eq_true] at hrt
            have := of_decide_eq_true hrt.2
            dsimp only [Vw.lin] at this
            exact w64 (by omega) (by omega)
          have hxn : x.nm.size ≤ maxLen := Nat.le_trans (right_len hrt) (by decide)
          (repeat ((first | refine n_must rfl ?_ | refine n_chk (drawF_ok (by decide +kernel)) ?_ | refine n_same rfl ?_ | ((first | refine n_must ?_ ?_ | refine n_brT ?_ ?_); (focus (first | (simp [hkl]; done) | (simp [hkl]; omega) | (simp only [hkl]; simp; done)))) | (refine n_brF ?_ ?_; (focus (first | (simp [hkl]; done) | (simp [hkl]; omega) | (simp only [hkl]; simp; done)))) | refine n_must (by (with_reducible refine and_shape ?_) <;> kernel_rfl) ?_); (refine gs ?_)))
          (refine n_ldA (.raw (.slice (some ⟨gv, 0, none⟩) (T').X.length (T').vc)) rfl (by first | exact trivial | rfl) rfl (fun _ w1 _ hI1 => (by rw [← hvo']; exact load_cell aggVp (tk_v (memRes_res (hI1.res 0 rfl rfl) 0 rfl rfl) rfl))) ?_; (refine gs ?_))
          refine gw ?_
          (refine n_ldA (.raw (pV (y').v)) rfl (by first | exact trivial | rfl) rfl (fun _ w1 _ hI1 => load_cell aggPv (rowRes_cell (hvo' ▸ memRes_res (hI1.res 0 rfl rfl) 1 rfl rfl) (by show (ptrs (T').X)[1]? = _; rw [List.getElem?_map, hy']; rfl))) ?_; (refine gs ?_))
          refine gw ?_
          (refine n_ldA (.str x.nm) rfl (by first | exact trivial | rfl) rfl (fun _ w1 _ hI1 => load_cell aggStr (row_at vw_len (hI1.res 2 rfl rfl) hxk (j := 0) (by omega) rfl (by rw [Int.toNat_natCast, add_add]; rfl))) ?_; (refine gs ?_))
          refine gw ?_
          refine n_sameP (.tup [.int .i64 x.d, .bool true]) rfl rfl rfl (fun _ w1 hp1 hI1 => (About_ok (tk_res (hI1.res 0 rfl rfl) hy') x.nm hxn).mono fun e w' ⟨he, hf⟩ => ⟨by
                      obtain ⟨a1, a2⟩ := about_like hv' (tk_res (hI1.res 0 rfl rfl) hy').2.1.nodup x.nm
                      rw [he, a1, a2, hyr', ab1, ab2, hxd], hf⟩) ?_; (refine gs ?_)
          refine gw ?_
          (refine n_ldA (.int .i64 x.d) rfl (by first | exact trivial | rfl) rfl (fun _ w1 _ hI1 => load_cell aggInt (row_at vw_len (hI1.res 2 rfl rfl) hxk (j := 4) (by omega) rfl (by rw [Int.toNat_natCast, add_add, add_add]; rfl))) ?_; (refine gs ?_))
          refine gw ?_
          exact n_again ⟨k + 1, by omega, by omega, (by (repeat (first | exact trivial | refine ⟨⟨rfl, rfl⟩, ?_⟩ | refine ⟨⟨rfl, congrArg (SV.int .i64) ek⟩, ?_⟩))), ⟨_, rfl⟩⟩
        · obtain rfl : k = L2.length := by omega
          (repeat ((first | refine n_must rfl ?_ | refine n_chk (drawF_ok (by decide +kernel)) ?_ | refine n_same rfl ?_ | ((first | refine n_must ?_ ?_ | refine n_brT ?_ ?_); (focus (first | (simp [hkl]; done) | (simp [hkl]; omega) | (simp only [hkl]; simp; done)))) | (refine n_brF ?_ ?_; (focus (first | (simp [hkl]; done) | (simp [hkl]; omega) | (simp only [hkl]; simp; done)))) | refine n_must (by (with_reducible refine and_shape ?_) <;> kernel_rfl) ?_); (refine gs ?_)))
          refine n_exit rfl ?_
          (refine gs ?_)
          refine gw ?_
          exact n_againJ fun ids' w' hp hI' => ⟨(i + 1, T'), ⟨by dsimp only; omega, hT', hvo', y', hy', hyr'⟩, by dsimp only; omega, (by (repeat (first | exact trivial | refine ⟨⟨rfl, rfl⟩, ?_⟩ | refine ⟨⟨rfl, congrArg (SV.int .i64) ei⟩, ?_⟩))), _, hI'⟩
    · (repeat ((first | refine n_must rfl ?_ | refine n_chk (drawF_ok (by decide +kernel)) ?_ | refine n_same rfl ?_ | ((first | refine n_must ?_ ?_ | refine n_brT ?_ ?_); (focus (first | (simp [h4]; done) | (simp [h4]; omega) | (simp only [h4]; simp; done)))) | (refine n_brF ?_ ?_; (focus (first | (simp [h4]; done) | (simp [h4]; omega) | (simp only [h4]; simp; done)))) | refine n_must (by (with_reducible refine and_shape ?_) <;> kernel_rfl) ?_); (refine gs ?_)))
      exact n_exitJ fun ids' w' hp hI' => ⟨(i, T), ⟨⟨hi, hT, hvo, y, hy, hyr⟩, trivial⟩, (by (repeat (first | exact trivial | refine ⟨⟨rfl, rfl⟩, ?_⟩))), [], hI'⟩
  (refine gs ?_)
  refine gw ?_
  exact n_ret0 rfl rfl fun ids' w' hp hI' => ⟨rfl, hI'.frm⟩
end
section
set_option maxRecDepth 100000
set_option linter.unusedVariables false
open Go.ChangeShapes Go.WideShapes Go.ChangeAt Go.RowKit

theorem cellsSy : Try.prog.cellsOf 32 = 7 := by kernel_rfl
theorem bytesSy : Try.prog.bytesOf 32 = 56 := by kernel_rfl
section
variable {H : Type} {enc : TypeId × Value → H} {w : World} {base : Nat} {spare : Nat → Bool} {held : Bool} {v : Value} {d : DataW H} {p : List MemPlace}
theorem open_says (hv : Value.okWide Try.prog w .any base 25 v) (h : DataW.Trod enc Try.prog w 0 spare held 25 v d p) {ts : List TypeId} {ds : List (DataW H)}
    (hz : (DataW.weightsEach Try.prog ts ds).all (· ≤ reachBytes) = true) {j : Nat} (h1 : ts[j]? = some 25) (h2 : ds[j]? = some d) :
    ∃ (o : Option Addr) (L : List Sy) (cap : Nat), v = .slice o L.length cap ∧ (syRes o L).R w ∧ L.length ≤ 9223372036854775806 ∧ ∀ m ∈ L, m.good := by
  obtain ⟨o, n, cap, f, rfl, hle, hcap, hsl, hfit⟩ := open_leaves (ls := [.int .i64, .int .i64, .int .i64, .int .i64, .int .i64, .int .i64, .int .i64]) 5 Try.underlying25 (by kernel_rfl) cellsSy (by simp) hv h
  have hb := len_reach Try.underlying25 h hz h1 h2
  rw [bytesSy] at hb
  have hre : reachBytes = 140737488351232 := rfl
  obtain ⟨L, hL, hat⟩ := list_of (α := Sy) (p := fun i m => f i = m.l ∧ m.good) (n := n) fun i hi => by
    obtain ⟨v0, r0, e0, ⟨x0, rfl, w0⟩, h0⟩ := (hfit i hi).inv
    obtain ⟨v1, r1, rfl, ⟨x1, rfl, w1⟩, h1⟩ := h0.inv
    obtain ⟨v2, r2, rfl, ⟨x2, rfl, w2⟩, h2⟩ := h1.inv
    obtain ⟨v3, r3, rfl, ⟨x3, rfl, w3⟩, h3⟩ := h2.inv
    obtain ⟨v4, r4, rfl, ⟨x4, rfl, w4⟩, h4⟩ := h3.inv
    obtain ⟨v5, r5, rfl, ⟨x5, rfl, w5⟩, h5⟩ := h4.inv
    obtain ⟨v6, r6, rfl, ⟨x6, rfl, w6⟩, h6⟩ := h5.inv
    obtain rfl := h6.inv0
    exact ⟨⟨x0, x1, x2, x3, x4, x5, x6⟩, e0, wf_i64 w0, wf_i64 w1, wf_i64 w2, wf_i64 w3, wf_i64 w4, wf_i64 w5, wf_i64 w6⟩
  refine ⟨o, L, cap, by rw [hL], fun j u hu => ?_, by omega, fun m hm => ?_⟩
  · have hj : j < n * 7 := by
      have := (List.getElem?_eq_some_iff.1 hu).1
      rw [flat_len sy_len, hL] at this
      exact this
    have hil : j / 7 < n := by omega
    have hr : j % 7 < 7 := Nat.mod_lt _ (by omega)
    have e1 : j = j / 7 * 7 + j % 7 := by omega
    have hx1 : L[j / 7]? = some L[j / 7] := List.getElem?_eq_getElem (by omega)
    obtain ⟨hf, _⟩ := hat _ _ hx1
    obtain ⟨a, ha, _, _, hc⟩ := hsl _ hil
    refine ⟨a, ha, ?_⟩
    rw [e1, flat_at sy_len hx1 hr] at hu
    rw [e1]
    exact hc (j % 7) u (by rw [hf]; exact hu)
  · obtain ⟨i, hi⟩ := List.getElem?_of_mem hm
    exact (hat i m hi).2
end
end
end Go.Proofs.Ytcpecnpnnodfhaa
