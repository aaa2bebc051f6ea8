/- The plain law of views: the program's and the document's answers alike. The plain law of views: digests. -/
import Derived.Test.YtglafgpjgkphkaaGreatDoorBnGi
namespace Go.Proofs.YtglafgpjgkphkaaGreatDoor
section
set_option maxRecDepth 100000
set_option linter.unusedSimpArgs false
set_option linter.unusedVariables false
set_option maxHeartbeats 2000000
open Go.RowKit

/-! ### Rising names -/
theorem ltS_irrefl (a : ByteArray) : ltS a a = false := by
  rw [Bool.eq_false_iff]; intro h; exact List.lt_irrefl _ (ltS_iff.1 h)
theorem ltS_trans {a b c : ByteArray} (h : ltS a b = true) (k : ltS b c = true) : ltS a c = true := ltS_iff.2 (List.lt_trans (ltS_iff.1 h) (ltS_iff.1 k))
theorem toList_inj {a b : ByteArray} (h : a.toList = b.toList) : a = b := by
  rw [ByteArray.toList_eq, ByteArray.toList_eq] at h
  exact ByteArray.ext (Array.ext' h)
theorem ltS_total {a b : ByteArray} (h : ltS a b = false) (hne : a ≠ b) : ltS b a = true := by
  have := leS_eq b a
  rw [h] at this
  simp only [Bool.not_false, Bool.or_eq_true, beq_iff_eq] at this
  rcases this with h1 | h1
  · exact h1
  · exact absurd (toList_inj h1).symm hne
def insR (nm : ByteArray) : List ByteArray → List ByteArray
  | [] => [nm]
  | x :: r => if ltS x nm = true then x :: insR nm r else if x = nm then nm :: r else nm :: x :: r
theorem ins_put (nm : ByteArray) : ∀ (r l : List ByteArray), r.foldl (insStep nm) (l, true) = (l ++ r, true)
  | [], l => by simp
  | x :: r, l => by
    have : insStep nm (l, true) x = (l ++ [x], true) := by unfold insStep; rw [if_neg (by simp)]
    rw [List.foldl_cons, this, ins_put nm r]; simp
theorem ins_eq (nm : ByteArray) : ∀ (out l : List ByteArray), (if (out.foldl (insStep nm) (l, false)).2 then (out.foldl (insStep nm) (l, false)).1 else (out.foldl (insStep nm) (l, false)).1 ++ [nm]) = l ++ insR nm out
  | [], l => by simp [insR]
  | x :: r, l => by
    rw [List.foldl_cons]
    cases hlt : ltS x nm with
    | true =>
      have : insStep nm (l, false) x = (l ++ [x], false) := by unfold insStep; rw [if_neg (by simp [hlt])]
      rw [this, ins_eq nm r]
      simp [insR, hlt]
    | false =>
      by_cases he : x = nm
      · have : insStep nm (l, false) x = (l ++ [nm], true) := by unfold insStep; rw [if_pos ⟨rfl, hlt⟩, if_pos he]
        rw [this, ins_put]
        have hR : insR nm (x :: r) = nm :: r := by rw [insR, if_neg (by simp [hlt]), if_pos he]
        rw [hR]; simp
      · have : insStep nm (l, false) x = (l ++ [nm] ++ [x], true) := by unfold insStep; rw [if_pos ⟨rfl, hlt⟩, if_neg he]
        rw [this, ins_put]
        simp [insR, hlt, he]
theorem insF_eq (nm : ByteArray) (out : List ByteArray) : insF nm out = insR nm out := by
  exact ins_eq nm out []
abbrev Rising (l : List ByteArray) : Prop := l.Pairwise fun a b => ltS a b = true
theorem insR_spec (nm : ByteArray) : ∀ {out : List ByteArray}, Rising out → Rising (insR nm out) ∧ (∀ y, y ∈ insR nm out ↔ y = nm ∨ y ∈ out) ∧ (nm ∈ out → (insR nm out).length = out.length) ∧ (nm ∉ out → (insR nm out).length = out.length + 1)
  | [], _ => by simp [insR, Rising]
  | x :: r, h => by
    have hx := (List.pairwise_cons.1 h).1
    obtain ⟨i1, i2, i3, i4⟩ := insR_spec nm (List.pairwise_cons.1 h).2
    unfold insR
    cases hlt : ltS x nm with
    | true =>
      rw [if_pos rfl]
      have hne : nm ≠ x := by rintro rfl; rw [ltS_irrefl] at hlt; cases hlt
      refine ⟨List.pairwise_cons.2 ⟨fun y hy => ?_, i1⟩, fun y => ?_, fun hm => ?_, fun hm => ?_⟩
      · rcases (i2 y).1 hy with rfl | hy
        · exact hlt
        · exact hx y hy
      · simp only [List.mem_cons, i2]; constructor
        · rintro (h | h | h)
          · exact .inr (.inl h)
          · exact .inl h
          · exact .inr (.inr h)
        · rintro (h | h | h)
          · exact .inr (.inl h)
          · exact .inl h
          · exact .inr (.inr h)
      · have hm' : nm ∈ r := by simpa [hne] using hm
        simp [i3 hm']
      · have hm' : nm ∉ r := fun h => hm (by simp [h])
        simp [i4 hm']
    | false =>
      rw [if_neg (by simp)]
      by_cases he : x = nm
      · subst he
        rw [if_pos rfl]
        exact ⟨h, fun y => by simp, fun _ => rfl, fun hm => absurd (by simp) hm⟩
      · rw [if_neg he]
        have hgt := ltS_total hlt he
        refine ⟨List.pairwise_cons.2 ⟨fun y hy => ?_, h⟩, fun y => by simp, fun hm => ?_, fun _ => by simp⟩
        · rcases List.mem_cons.1 hy with rfl | hy
          · exact hgt
          · exact ltS_trans hgt (hx y hy)
        · rcases List.mem_cons.1 hm with rfl | hm
          · exact absurd rfl he
          · have := ltS_trans hgt (hx nm hm)
            rw [ltS_irrefl] at this; cases this
theorem namesF_app (All : List (Int × Vw)) (e : Int × Vw) (r : Int) : namesF (All ++ [e]) r = namStep r (namesF All r) e := by unfold namesF; simp
theorem namesF_spec (r : Int) (All : List (Int × Vw)) : Rising (namesF All r) ∧ ∀ nm, nm ∈ namesF All r ↔ ∃ e ∈ All, e.1 = r ∧ e.2.nm = nm := by
  have key : ∀ (l : List (Int × Vw)) (a : List ByteArray), Rising a → Rising (l.foldl (namStep r) a) ∧ ∀ nm, nm ∈ l.foldl (namStep r) a ↔ nm ∈ a ∨ ∃ e ∈ l, e.1 = r ∧ e.2.nm = nm := by
    intro l
    induction l with
    | nil => intro a h; exact ⟨h, fun nm => by simp⟩
    | cons e l ih =>
      intro a h
      have hs : Rising (namStep r a e) ∧ ∀ nm, nm ∈ namStep r a e ↔ nm ∈ a ∨ (e.1 = r ∧ e.2.nm = nm) := by
        unfold namStep
        split
        · rename_i he
          rw [insF_eq]
          obtain ⟨i1, i2, _⟩ := insR_spec e.2.nm h
          exact ⟨i1, fun nm => by rw [i2]; constructor; · rintro (rfl | h); exact .inr ⟨he, rfl⟩; exact .inl h
                                  · rintro (h | ⟨_, rfl⟩); exact .inr h; exact .inl rfl⟩
        · rename_i he
          exact ⟨h, fun nm => ⟨.inl, fun h => h.elim id fun h => absurd h.1 he⟩⟩
      obtain ⟨j1, j2⟩ := ih _ hs.1
      refine ⟨j1, fun nm => ?_⟩
      rw [List.foldl_cons, j2, hs.2]
      simp only [List.mem_cons, exists_eq_or_imp, or_assoc]
  have := key All [] (by simp [Rising])
  refine ⟨this.1, fun nm => ?_⟩
  have h2 := this.2 nm
  simpa [namesF] using h2

/-! ### The last view -/
theorem lastF_app (All : List (Int × Vw)) (e : Int × Vw) (k : Int) (nm : ByteArray) : lastF (All ++ [e]) k nm = lastStep k nm (lastF All k nm) e := by unfold lastF; simp
theorem lastF_spec (All : List (Int × Vw)) (k : Int) (nm : ByteArray) : (lastF All k nm = Vw.zero ∧ ∀ e ∈ All, ¬ (e.1 = k ∧ e.2.nm = nm)) ∨ ((k, lastF All k nm) ∈ All ∧ (lastF All k nm).nm = nm) := by
  have key : ∀ (l : List (Int × Vw)) (a : Vw), (l.foldl (lastStep k nm) a = a ∧ ∀ e ∈ l, ¬ (e.1 = k ∧ e.2.nm = nm)) ∨ ((k, l.foldl (lastStep k nm) a) ∈ l ∧ (l.foldl (lastStep k nm) a).nm = nm) := by
    intro l
    induction l with
    | nil => intro a; exact .inl ⟨rfl, by simp⟩
    | cons e l ih =>
      intro a
      rw [List.foldl_cons]
      rcases ih (lastStep k nm a e) with ⟨h1, h2⟩ | ⟨h1, h2⟩
      · by_cases he : e.1 = k ∧ e.2.nm = nm
        · have : lastStep k nm a e = e.2 := by rw [lastStep, if_pos he]
          rw [h1, this]
          exact .inr ⟨by rw [← he.1]; simp, he.2⟩
        · have : lastStep k nm a e = a := by rw [lastStep, if_neg he]
          rw [h1, this]
          exact .inl ⟨rfl, fun x hx => by rcases List.mem_cons.1 hx with rfl | hx; exact he; exact h2 x hx⟩
      · exact .inr ⟨by simp [h1], h2⟩
  exact key All Vw.zero

structure VRel (s : Vs) (r : Rv) (n : Nat) : Prop where
  me : s.me = r.me
  mein : 0 ≤ r.me ∧ r.me < n
  rn : r.n = n
  len : s.ns.length = n
  get : ∀ k nm, (mget s.V (k, nm)).getD Vw.zero = lastF r.All k nm
  is : ∀ k nm, (mget s.V (k, nm)).isSome = decide ((lastF r.All k nm).ver ≠ 0)
  ents : ∀ e ∈ r.All, 1 ≤ e.2.ver ∧ 0 ≤ e.1 ∧ e.1 < n ∧ (e.1 = r.me → e.2.ver ≤ r.All.length)
  cnt : ∀ k : Int, 0 ≤ k → k < n → cnt s.ns k = (namesF r.All k).length
theorem VRel.ver {s : Vs} {r : Rv} {n : Nat} (h : VRel s r n) (k : Int) (nm : ByteArray) : 0 ≤ (lastF r.All k nm).ver ∧ (k = r.me → (lastF r.All k nm).ver ≤ r.All.length) ∧ ((lastF r.All k nm).ver ≠ 0 → (lastF r.All k nm).nm = nm ∧ 0 ≤ k ∧ k < n) := by
  rcases lastF_spec r.All k nm with ⟨h1, _⟩ | ⟨h1, h2⟩
  · rw [h1]; exact ⟨Int.le_refl _, fun _ => by simp, fun h => absurd rfl h⟩
  · have := h.ents _ h1
    exact ⟨by have := this.1; dsimp only at this; omega, this.2.2.2, fun _ => ⟨h2, this.2.1, this.2.2.1⟩⟩
theorem VRel.zero {s : Vs} {r : Rv} {n : Nat} (h : VRel s r n) {k : Int} {nm : ByteArray} (h0 : (lastF r.All k nm).ver = 0) : lastF r.All k nm = Vw.zero := by
  rcases lastF_spec r.All k nm with ⟨h1, _⟩ | ⟨h1, h2⟩
  · exact h1
  · have := (h.ents _ h1).1
    dsimp only at this
    omega
theorem VRel.new {me : Int} {n : Nat} (h : 0 ≤ me ∧ me < n) : VRel ⟨me, [], List.replicate n 0⟩ ⟨me, n, []⟩ n :=
  ⟨rfl, h, rfl, by simp, fun k nm => rfl, fun k nm => rfl, by simp, fun k h0 h1 => by
    have : k.toNat < n := by omega
    simp [Go.Proofs.YtglafgpjgkphkaaGreatDoor.cnt, namesF, List.getD, this]⟩
/-- A view is put in. -/
theorem VRel.put {s : Vs} {r : Rv} {n : Nat} (h : VRel s r n) {k : Int} {x : Vw} (hk : 0 ≤ k ∧ k < n) (hv : 1 ≤ x.ver) (hme : k = r.me → x.ver ≤ r.All.length + 1) : VRel (s.put k x) { r with All := r.All ++ [(k, x)] } n := by
  have hg : ∀ k' nm, mget (s.put k x).V (k', nm) = if (k, x.nm) = (k', nm) then some x else mget s.V (k', nm) := fun k' nm => mget_put _ _ _ _
  have hl : ∀ k' nm, lastF (r.All ++ [(k, x)]) k' nm = if k = k' ∧ x.nm = nm then x else lastF r.All k' nm := fun k' nm => by rw [lastF_app]; rfl
  refine ⟨h.me, h.mein, h.rn, (Vs.put_len _ _ _).trans h.len, fun k' nm => ?_, fun k' nm => ?_, fun e he => ?_, fun k' h0 h1 => ?_⟩
  · rw [hg, hl]
    by_cases e : k = k' ∧ x.nm = nm
    · rw [if_pos e, if_pos (by rw [e.1, e.2])]; rfl
    · rw [if_neg e, if_neg (fun q => e (by simpa using q))]; exact h.get k' nm
  · rw [hg, hl]
    by_cases e : k = k' ∧ x.nm = nm
    · rw [if_pos e, if_pos (by rw [e.1, e.2])]
      symm
      simp; omega
    · rw [if_neg e, if_neg (fun q => e (by simpa using q))]; exact h.is k' nm
  · rcases List.mem_append.1 he with he | he
    · have := h.ents e he
      exact ⟨this.1, this.2.1, this.2.2.1, fun q => by have := this.2.2.2 q; simp; omega⟩
    · simp at he; subst he
      exact ⟨hv, hk.1, hk.2, fun q => by have := hme q; simp; omega⟩
  · rw [namesF_app]
    have hsp := namesF_spec k r.All
    have hmem : x.nm ∈ namesF r.All k ↔ (mget s.V (k, x.nm)).isSome = true := by
      rw [hsp.2, h.is]
      rcases lastF_spec r.All k x.nm with ⟨q1, q2⟩ | ⟨q1, q2⟩
      · rw [q1]
        constructor
        · rintro ⟨e, he, q⟩; exact absurd q (q2 e he)
        · intro q; simp at q
      · have := (h.ents _ q1).1
        dsimp only at this
        constructor
        · intro _; simp; omega
        · intro _; exact ⟨_, q1, rfl, q2⟩
    by_cases e : k = k'
    · subst e
      have hns : namStep k (namesF r.All k) (k, x) = insR x.nm (namesF r.All k) := by rw [namStep, if_pos rfl, insF_eq]
      rw [hns]
      obtain ⟨_, _, i3, i4⟩ := insR_spec x.nm hsp.1
      have hc := h.cnt k hk.1 hk.2
      unfold Vs.put
      dsimp only
      by_cases hm : (mget s.V (k, x.nm)).isSome = true
      · rw [if_pos hm, hc, i3 (hmem.2 hm)]
      · rw [if_neg hm, i4 (fun q => hm (hmem.1 q))]
        have hkn : k.toNat < s.ns.length := by rw [h.len]; omega
        have : Go.Proofs.YtglafgpjgkphkaaGreatDoor.cnt (s.ns.set k.toNat (Go.Proofs.YtglafgpjgkphkaaGreatDoor.cnt s.ns k + 1)) k = Go.Proofs.YtglafgpjgkphkaaGreatDoor.cnt s.ns k + 1 := by simp [Go.Proofs.YtglafgpjgkphkaaGreatDoor.cnt, List.getD, hkn]
        rw [this, hc]; simp
    · have hns : namStep k' (namesF r.All k') (k, x) = namesF r.All k' := by rw [namStep, if_neg e]
      rw [hns, ← h.cnt k' h0 h1]
      unfold Vs.put
      dsimp only
      split
      · rfl
      · have : k.toNat ≠ k'.toNat := by omega
        simp [Go.Proofs.YtglafgpjgkphkaaGreatDoor.cnt, List.getD, this]

/-! ### Tell, Take -/
theorem named_ne {nm : ByteArray} (h : namedB nm = true) : nm ≠ { data := #[] } := by
  rintro rfl
  simp [namedB] at h
theorem tell_like {s : Vs} {r : Rv} {n : Nat} (h : VRel s r n) (hl : r.All.length ≤ 100000) (nm : ByteArray) (cp rc d u hh : Int) :
    (s.tell ⟨nm, cp, rc, 1, d, u, hh⟩).2 = (r.tell ⟨nm, cp, rc, 1, d, u, hh⟩).2 ∧ VRel (s.tell ⟨nm, cp, rc, 1, d, u, hh⟩).1 (r.tell ⟨nm, cp, rc, 1, d, u, hh⟩).1 n := by
  have hlast : s.last s.me nm = lastF r.All r.me nm := by rw [Vs.last, h.get, h.me]
  have his := h.is s.me nm
  rw [h.me] at his
  have hv := h.ver r.me nm
  have hc := h.cnt r.me h.mein.1 h.mein.2
  have hlen : (r.tell ⟨nm, cp, rc, 1, d, u, hh⟩).1.All.length ≤ r.All.length + 1 := by
    unfold Rv.tell
    repeat' split
    all_goals simp
  unfold Vs.tell Rv.tell
  by_cases hr : rightB ⟨nm, cp, rc, 1, d, u, hh⟩ = false
  · rw [if_pos hr, if_pos hr]; exact ⟨rfl, h⟩
  rw [if_neg hr, if_neg hr]
  have hnm : nm ≠ { data := #[] } := named_ne (by
    have : rightB ⟨nm, cp, rc, 1, d, u, hh⟩ = true := by simpa using hr
    simp only [rightB, Bool.and_eq_true] at this
    exact this.1)
  dsimp only
  rw [hlast, h.me, hc]
  have hz := h.zero (k := r.me) (nm := nm)
  obtain ⟨was, hwas⟩ : ∃ was, was = lastF r.All r.me nm := ⟨_, rfl⟩
  rw [← hwas] at his hv hz ⊢
  by_cases h0 : was.ver = 0
  · have his' : (mget s.V (r.me, nm)).isSome = false := by rw [his]; simp [h0]
    rw [his']
    by_cases h64 : 64 ≤ (namesF r.All r.me).length
    · rw [if_pos ⟨rfl, by omega⟩, if_pos ⟨h0, h64⟩]; exact ⟨rfl, h⟩
    · have hne : (⟨nm, cp, rc, was.ver, d, u, hh⟩ : Vw) ≠ was := by
        intro q
        have q1 := congrArg Vw.nm q
        rw [hz h0] at q1
        exact hnm q1
      rw [if_neg (by rintro ⟨_, q⟩; omega), if_neg hne, if_neg (by rintro ⟨_, q⟩; omega), if_neg (by rintro ⟨q, _⟩; omega)]
      have h1 : wr (was.ver + 1) = 1 := by rw [h0]; decide
      refine ⟨rfl, h.put h.mein ?_ ?_⟩
      · dsimp only; rw [h1]; decide
      · intro _; dsimp only; rw [h1]; omega
  · have his' : (mget s.V (r.me, nm)).isSome = true := by rw [his]; simp [h0]
    rw [his', if_neg (by rintro ⟨q, _⟩; cases q)]
    have hvb := hv.2.1 rfl
    have hw : wr (was.ver + 1) = was.ver + 1 := w64 (by omega) (by omega)
    have heq : ((⟨nm, cp, rc, was.ver, d, u, hh⟩ : Vw) = was) ↔ (0 < was.ver ∧ was.cap = cp ∧ was.rc = rc ∧ was.d = d ∧ was.u = u ∧ was.h = hh) := by
      have hn := (hv.2.2 h0).1
      have h0' := hv.1
      clear hwas hz his his' hv hvb hw
      obtain ⟨a1, a2, a3, a4, a5, a6, a7⟩ := was
      dsimp only at *
      subst hn
      simp only [Vw.mk.injEq, true_and]
      constructor
      · rintro ⟨rfl, rfl, rfl, rfl, rfl⟩; exact ⟨by omega, rfl, rfl, rfl, rfl, rfl⟩
      · rintro ⟨_, rfl, rfl, rfl, rfl, rfl⟩; exact ⟨rfl, rfl, rfl, rfl, rfl⟩
    by_cases hE : (⟨nm, cp, rc, was.ver, d, u, hh⟩ : Vw) = was
    · rw [if_pos hE, if_neg (by rintro ⟨q, _⟩; exact h0 q), if_pos (heq.1 hE)]; exact ⟨rfl, h⟩
    · rw [if_neg hE, if_neg (by rintro ⟨q, _⟩; exact h0 q), if_neg fun q => hE (heq.2 q)]
      refine ⟨rfl, h.put h.mein ?_ ?_⟩
      · dsimp only; rw [hw]; omega
      · intro _; dsimp only; rw [hw]; omega
theorem take1_like {s : Vs} {r : Rv} {n : Nat} (h : VRel s r n) {k : Int} (hk : 0 ≤ k ∧ k < n) (hme : k ≠ r.me) {x : Vw} (hx : 1 ≤ x.ver) (q : Nat) :
    (Vs.take1 k (s, q) x).2 = (take1R k (r.All, q) x).2 ∧ VRel (Vs.take1 k (s, q) x).1 { r with All := (take1R k (r.All, q) x).1 } n := by
  have hl : s.last k x.nm = lastF r.All k x.nm := h.get _ _
  unfold Vs.take1 take1R
  dsimp only
  rw [hl]
  split
  · exact ⟨rfl, h.put hk hx fun e => absurd e hme⟩
  · exact ⟨rfl, h⟩
theorem takes_like {s : Vs} {r : Rv} {n : Nat} (h : VRel s r n) {k : Int} (hk : 0 ≤ k ∧ k < n) (hme : k ≠ r.me) : ∀ {L : List Vw} (_ : ∀ x ∈ L, 1 ≤ x.ver), (s.takes k L).2 = (takesR r.All k L).2 ∧ VRel (s.takes k L).1 { r with All := (takesR r.All k L).1 } n := by
  have key : ∀ (L : List Vw) (s : Vs) (A : List (Int × Vw)) (q : Nat), (∀ x ∈ L, 1 ≤ x.ver) → VRel s { r with All := A } n → (L.foldl (Vs.take1 k) (s, q)).2 = (L.foldl (take1R k) (A, q)).2 ∧ VRel (L.foldl (Vs.take1 k) (s, q)).1 { r with All := (L.foldl (take1R k) (A, q)).1 } n := by
    intro L
    induction L with
    | nil => intro s A q _ h; exact ⟨rfl, h⟩
    | cons x L ih =>
      intro s A q hv h
      obtain ⟨e1, e2⟩ := take1_like (r := { r with All := A }) h hk hme (hv x (by simp)) q
      rw [List.foldl_cons, List.foldl_cons]
      have e3 : Vs.take1 k (s, q) x = ((Vs.take1 k (s, q) x).1, (take1R k (A, q) x).2) := Prod.ext rfl e1
      rw [e3]
      exact ih _ _ _ (fun y hy => hv y (by simp [hy])) e2
  intro L hv
  exact key L s r.All 0 hv h
theorem take_like {s : Vs} {r : Rv} {n : Nat} (h : VRel s r n) (k : Int) (L : List Vw) : (s.take k L).2 = (r.take k L).2 ∧ VRel (s.take k L).1 (r.take k L).1 n := by
  unfold Vs.take Rv.take
  rw [h.len, h.rn, h.me]
  by_cases h1 : k < 0 ∨ (n : Int) ≤ k ∨ k = r.me
  · rw [if_pos h1, if_pos h1]; exact ⟨rfl, h⟩
  rw [if_neg h1, if_neg h1]
  by_cases h2 : 64 < L.length
  · rw [if_pos h2, if_pos h2]; exact ⟨rfl, h⟩
  rw [if_neg h2, if_neg h2]
  by_cases h3 : goodL L = false
  · rw [if_pos h3, if_pos h3]; exact ⟨rfl, h⟩
  rw [if_neg h3, if_neg h3]
  have hk : 0 ≤ k ∧ k < n := by omega
  have hf : freshN s k L = freshR r.All k L := by
    unfold freshN freshR
    congr 1
    funext x
    rw [h.is]
    simp
  rw [hf, h.cnt k hk.1 hk.2]
  by_cases h4 : 64 < (namesF r.All k).length + freshR r.All k L
  · rw [if_pos (by omega), if_pos h4]; exact ⟨rfl, h⟩
  rw [if_neg (by omega), if_neg h4]
  have hgood : ∀ x ∈ L, 1 ≤ x.ver := by
    intro x hx
    have hg : goodL L = true := by simpa using h3
    obtain ⟨i, hi, rfl⟩ := List.getElem_of_mem hx
    unfold goodL at hg
    simp only [List.all_eq_true, List.mem_range] at hg
    have := hg i hi
    simp only [okAt, Bool.and_eq_true, rightB, decide_eq_true_eq] at this
    have h5 := this.1.2.2.2.1
    simpa [List.getD, List.getElem?_eq_getElem hi] using h5
  obtain ⟨e1, e2⟩ := takes_like h hk (by omega) hgood
  rw [h.rn] at e2
  exact ⟨by rw [e1], e2⟩

/-! ### About, Known -/
theorem known_like {s : Vs} {r : Rv} {n : Nat} (h : VRel s r n) (nm : ByteArray) : knownL s.V nm n = rKnownL r.All nm n := by
  unfold knownL rKnownL
  refine List.map_congr_left fun i _ => ?_
  unfold knownF rKnownF
  rw [h.get]
theorem sum_keys (nm : ByteArray) (f : Vw → Int) (n : Nat) : ∀ {V : List ((Int × ByteArray) × Vw)} (_ : (V.map (·.1)).Nodup) (_ : ∀ p ∈ V, 0 ≤ p.1.1 ∧ p.1.1 < n), (V.map fun p => if p.1.2 = nm then f p.2 else 0).sum = ((List.range n).map fun i : Nat => match mget V ((i : Int), nm) with | some x => f x | none => 0).sum
  | [], h1, h2 => by
    clear h1 h2
    simp only [mget, List.map_nil, List.sum_nil]
    induction n with
    | zero => rfl
    | succ n ih => rw [List.range_succ]; simp; exact ih
  | p :: V, hn, hb => by
    have hn' := List.nodup_cons.1 (by simpa using hn : (p.1 :: V.map (·.1)).Nodup)
    have ih := sum_keys nm f n hn'.2 (fun q hq => hb q (by simp [hq]))
    have hp := hb p (by simp)
    simp only [List.map_cons, List.sum_cons]
    rw [ih]
    by_cases hnm : p.1.2 = nm
    · rw [if_pos hnm]
      have hx : p.1.1.toNat ∈ List.range n := List.mem_range.2 (by omega)
      have hkey : (((p.1.1.toNat : Nat) : Int), nm) = p.1 := by rw [← hnm]; exact Prod.ext (by dsimp only; omega) rfl
      have hnone : mget V p.1 = none := by
        cases hq : mget V p.1 with
        | none => rfl
        | some y => exact absurd (List.mem_map.2 ⟨_, mget_some hq, rfl⟩) hn'.1
      have key := sum_flip (f := fun i : Nat => match mget V ((i : Int), nm) with | some x => f x | none => 0) (g := fun i : Nat => match mget (p :: V) ((i : Int), nm) with | some x => f x | none => 0) (l := List.range n) (x := p.1.1.toNat) (y := f p.2) List.nodup_range hx (fun z hz hne => by
        have : p.1 ≠ ((z : Int), nm) := fun e => hne (by have := congrArg Prod.fst e; dsimp only at this; omega)
        simp only [mget, if_neg this]) (by
        rw [hkey, hnone]
        simp [mget])
      rw [key]
      omega
    · rw [if_neg hnm]
      rw [Int.zero_add]
      congr 1
      refine List.map_congr_left fun i _ => ?_
      have : p.1 ≠ ((i : Int), nm) := fun e => hnm (by rw [e])
      simp only [mget, if_neg this]
theorem about_like {s : Vs} {r : Rv} {n : Nat} (h : VRel s r n) (hnd : (s.V.map (·.1)).Nodup) (nm : ByteArray) : aboutD s.V nm = rAboutD r.All nm n ∧ decide (0 < aboutN s.V nm) = rAboutB r.All nm n := by
  have hb : ∀ p ∈ s.V, 0 ≤ p.1.1 ∧ p.1.1 < n := by
    rintro ⟨⟨k, m⟩, x⟩ hp
    obtain ⟨j, hj, e⟩ := List.getElem_of_mem hp
    have h1 := (mget_at hnd (p := ((k, m), x)) (j := j) (by rw [List.getElem?_eq_getElem hj, e])).1
    have h2 := h.is k m
    rw [h1] at h2
    simp at h2
    exact ((h.ver k m).2.2 h2).2
  have e1 := sum_keys nm (fun x => x.d) n hnd hb
  have e2 := sum_keys nm (fun _ => 1) n hnd hb
  have hmg : ∀ i : Nat, (match mget s.V ((i : Int), nm) with | some x => x.d | none => 0) = (lastF r.All (i : Int) nm).d := fun i => by
    rw [← h.get]
    cases mget s.V ((i : Int), nm) <;> rfl
  have hmn : ∀ i : Nat, (match mget s.V ((i : Int), nm) with | some _ => (1 : Int) | none => 0) = if 0 < (lastF r.All (i : Int) nm).ver then 1 else 0 := fun i => by
    have h1 := h.is (i : Int) nm
    have h2 := (h.ver (i : Int) nm).1
    cases hq : mget s.V ((i : Int), nm) with
    | none => rw [hq] at h1; simp at h1; rw [if_neg (by omega)]
    | some x => rw [hq] at h1; simp at h1; rw [if_pos (by omega)]
  unfold aboutD aboutN
  rw [e1, e2]
  simp only [hmg, hmn]
  constructor
  · induction n with
    | zero => rfl
    | succ n ih =>
      clear ih e1 e2 hb h
      have : ∀ m : Nat, ((List.range m).map fun i : Nat => (lastF r.All (i : Int) nm).d).sum = rAboutD r.All nm m := by
        intro m
        induction m with
        | zero => rfl
        | succ m ih => rw [List.range_succ]; simp [ih, rAboutD]
      exact this (n + 1)
  · have : ∀ m : Nat, 0 ≤ ((List.range m).map fun i : Nat => if 0 < (lastF r.All (i : Int) nm).ver then (1 : Int) else 0).sum ∧ decide (0 < ((List.range m).map fun i : Nat => if 0 < (lastF r.All (i : Int) nm).ver then (1 : Int) else 0).sum) = rAboutB r.All nm m := by
      intro m
      induction m with
      | zero => exact ⟨Int.le_refl _, rfl⟩
      | succ m ih =>
        obtain ⟨i1, i2⟩ := ih
        rw [List.range_succ]
        simp only [List.map_append, List.map_cons, List.map_nil, List.sum_append, List.sum_cons, List.sum_nil, rAboutB]
        rw [← i2]
        by_cases hv : 0 < (lastF r.All (m : Int) nm).ver
        · rw [if_pos hv]
          refine ⟨by omega, ?_⟩
          rw [decide_eq_true hv, Bool.or_true]
          exact decide_eq_true (by omega)
        · rw [if_neg hv]
          refine ⟨by omega, ?_⟩
          rw [decide_eq_false hv, Bool.or_false]
          exact decide_eq_decide.2 (by omega)
    exact (this n).2
end
section
set_option maxRecDepth 100000
set_option linter.unusedSimpArgs false
set_option linter.unusedVariables false
set_option maxHeartbeats 2000000
open Go.RowKit

abbrev RisV (L : List Vw) : Prop := L.Pairwise fun a b => ltS a.nm b.nm = true
/-- The views of its own. -/
def mineL (me : Int) (V : List ((Int × ByteArray) × Vw)) : List Vw := (V.filter fun p => decide (p.1.1 = me)).map (·.2)
def rDigF (r : Rv) : List Vw := (namesF r.All r.me).map (lastF r.All r.me)
theorem ris_unique : ∀ {l m : List Vw}, RisV l → RisV m → (∀ x, x ∈ l ↔ x ∈ m) → l = m
  | [], [], _, _, _ => rfl
  | [], b :: m, _, _, h => absurd ((h b).2 (by simp)) (by simp)
  | a :: l, [], _, _, h => absurd ((h a).1 (by simp)) (by simp)
  | a :: l, b :: m, hl, hm, h => by
    have hl' := List.pairwise_cons.1 hl
    have hm' := List.pairwise_cons.1 hm
    have asym : ∀ {x y : Vw}, ltS x.nm y.nm = true → ltS y.nm x.nm = true → False := fun h1 h2 => by
      have := ltS_trans h1 h2
      rw [ltS_irrefl] at this; cases this
    have e : a = b := by
      by_cases e : a = b
      · exact e
      have ha : a ∈ m := by
        rcases List.mem_cons.1 ((h a).1 (by simp)) with h | h
        · exact absurd h e
        · exact h
      have hb : b ∈ l := by
        rcases List.mem_cons.1 ((h b).2 (by simp)) with h | h
        · exact absurd h.symm e
        · exact h
      exact (asym (hl'.1 b hb) (hm'.1 a ha)).elim
    subst e
    have hna : a ∉ l := fun hx => by have := hl'.1 a hx; rw [ltS_irrefl] at this; cases this
    have hnb : a ∉ m := fun hx => by have := hm'.1 a hx; rw [ltS_irrefl] at this; cases this
    rw [ris_unique hl'.2 hm'.2 fun x => ⟨fun hx => by
      rcases List.mem_cons.1 ((h x).1 (by simp [hx])) with rfl | h
      · exact absurd hx hna
      · exact h, fun hx => by
      rcases List.mem_cons.1 ((h x).2 (by simp [hx])) with rfl | h
      · exact absurd hx hnb
      · exact h⟩]
theorem last_nm {s : Vs} {r : Rv} {n : Nat} (h : VRel s r n) {nm : ByteArray} (hn : nm ∈ namesF r.All r.me) : (lastF r.All r.me nm).nm = nm ∧ (lastF r.All r.me nm).ver ≠ 0 := by
  obtain ⟨e, he, h1, h2⟩ := ((namesF_spec r.me r.All).2 nm).1 hn
  rcases lastF_spec r.All r.me nm with ⟨_, h3⟩ | ⟨h3, h4⟩
  · exact absurd ⟨h1, h2⟩ (h3 e he)
  · have := (h.ents _ h3).1
    exact ⟨h4, by dsimp only at this; omega⟩
theorem rDig_ris {s : Vs} {r : Rv} {n : Nat} (h : VRel s r n) : RisV (rDigF r) := by
  unfold rDigF RisV
  rw [List.pairwise_map]
  have h1 := (namesF_spec r.me r.All).1
  refine List.Pairwise.imp_of_mem ?_ h1
  intro a b ha hb hab
  rw [(last_nm h ha).1, (last_nm h hb).1]
  exact hab
theorem digest_like {s : Vs} {r : Rv} {n : Nat} (h : VRel s r n) (hnd : (s.V.map (·.1)).Nodup) {L : List Vw} (hp : L.Perm (mineL s.me s.V)) (hs : RisV L) : L = rDigF r := by
  refine ris_unique hs (rDig_ris h) fun x => ?_
  rw [hp.mem_iff]
  unfold mineL rDigF
  constructor
  · intro hx
    obtain ⟨⟨⟨k, nm⟩, y⟩, hy, rfl⟩ := List.mem_map.1 hx
    obtain ⟨hy, hk⟩ := List.mem_filter.1 hy
    obtain rfl : k = s.me := of_decide_eq_true hk
    obtain ⟨j, hj, e⟩ := List.getElem_of_mem hy
    have h1 := (mget_at hnd (p := ((s.me, nm), y)) (j := j) (by rw [List.getElem?_eq_getElem hj, e])).1
    dsimp only at h1
    have h2 := h.get s.me nm
    have h3 := h.is s.me nm
    rw [h1] at h2 h3
    simp at h2 h3
    rw [h.me] at h2 h3
    rcases lastF_spec r.All r.me nm with ⟨h4, _⟩ | ⟨h4, h5⟩
    · rw [h4] at h3; exact absurd rfl h3
    · exact List.mem_map.2 ⟨nm, ((namesF_spec r.me r.All).2 nm).2 ⟨_, h4, rfl, h5⟩, h2.symm⟩
  · intro hx
    obtain ⟨nm, hn, rfl⟩ := List.mem_map.1 hx
    obtain ⟨h1, h2⟩ := last_nm h hn
    have h3 := h.is s.me nm
    have h4 := h.get s.me nm
    rw [h.me] at h3 h4
    rw [decide_eq_true h2] at h3
    obtain ⟨y, hy⟩ := Option.isSome_iff_exists.1 h3
    rw [hy] at h4
    simp at h4
    have hj := mget_some hy
    rw [h.me]
    exact List.mem_map.2 ⟨((r.me, nm), y), List.mem_filter.2 ⟨hj, by simp⟩, h4⟩
/-- A view stands under its own name. -/
theorem VRel.nm_eq {s : Vs} {r : Rv} {n : Nat} (h : VRel s r n) (hnd : (s.V.map (·.1)).Nodup) {k : Int} {nm : ByteArray} {y : Vw} (hy : ((k, nm), y) ∈ s.V) : y.nm = nm := by
  obtain ⟨j, hj, e⟩ := List.getElem_of_mem hy
  have h1 := (mget_at hnd (p := ((k, nm), y)) (j := j) (by rw [List.getElem?_eq_getElem hj, e])).1
  dsimp only at h1
  have h2 := h.get k nm
  have h3 := h.is k nm
  rw [h1] at h2 h3
  simp at h2 h3
  rw [h2]
  exact ((h.ver k nm).2.2 h3).1
theorem mine_ne {s : Vs} {r : Rv} {n : Nat} (h : VRel s r n) (hnd : (s.V.map (·.1)).Nodup) : (mineL s.me s.V).Pairwise fun a b => a.nm ≠ b.nm := by
  unfold mineL
  rw [List.pairwise_map]
  have h1 : s.V.Pairwise fun a b => a.1 ≠ b.1 := List.pairwise_map.1 hnd
  refine List.Pairwise.imp_of_mem ?_ (h1.filter _)
  rintro ⟨⟨k, a⟩, x⟩ ⟨⟨k', b⟩, y⟩ ha hb hab
  obtain ⟨ha, hk⟩ := List.mem_filter.1 ha
  obtain ⟨hb, hk'⟩ := List.mem_filter.1 hb
  obtain rfl : k = s.me := of_decide_eq_true hk
  obtain rfl : k' = s.me := of_decide_eq_true hk'
  dsimp only
  rw [h.nm_eq hnd ha, h.nm_eq hnd hb]
  intro e
  exact hab (by rw [e])
end
end Go.Proofs.YtglafgpjgkphkaaGreatDoor
