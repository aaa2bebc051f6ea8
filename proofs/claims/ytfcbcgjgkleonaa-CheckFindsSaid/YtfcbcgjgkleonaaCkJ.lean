/- sluiceref17: Verify. -/
import Derived.Test.YtfcbcgjgkleonaaCkI
import Derived.Test.YtfcbcgjgkleonaaCkQ
set_option maxRecDepth 100000
set_option linter.unusedSimpArgs false
set_option linter.unusedVariables false
set_option maxHeartbeats 8000000
namespace Go.Proofs.Ytfcbcgjgkleonaa
open Go.RowKit

/-! ### In plain lists -/
def stepR (l : List Rk) (e : Ef) : List Rk := if allowR (doR l e.k e.nm e.a e.b e.va) e.er e.va then (doR l e.k e.nm e.a e.b e.va).1 else l
def stR (E : List Ef) (i : Nat) : List Rk := (E.take i).foldl stepR []
def alR (E : List Ef) (i : Nat) (e : Ef) : Bool := allowR (doR (stR E i) e.k e.nm e.a e.b e.va) e.er e.va
theorem stR_next {E : List Ef} {i : Nat} {e : Ef} (h : E[i]? = some e) : stR E (i + 1) = stepR (stR E i) e := by
  unfold stR
  rw [take_next h]
  simp
def vOk (L : List Pa) (E : List Ef) (al : Nat → Ef → Bool) (i : Nat) : Bool := match E[i]? with | some e => fitsF L E i e && al i e | none => true
def thereF (E : List Ef) (c : Int × Int) : Bool := E.any fun e => decide (0 ≤ e.se ∧ e.call = c)
def mOk (L : List Pa) (E : List Ef) (i : Nat) : Bool := match L[i]? with | some p => !(decide (sortF p = 2) && !thereF E p.call) | none => true
def firstBadN (n : Nat) (p : Nat → Bool) : Option Nat := (List.range n).find? fun i => !p i
theorem firstBadN_some {n i : Nat} {p : Nat → Bool} (hi : i < n) (h : ∀ j, j < i → p j = true) (hb : p i = false) : firstBadN n p = some i := by
  unfold firstBadN
  rw [List.find?_eq_some_iff_getElem]
  exact ⟨by simp [hb], i, by simpa using hi, by simp, fun j hj => by simp [h j hj]⟩
theorem firstBadN_none {n : Nat} {p : Nat → Bool} (h : ∀ j, j < n → p j = true) : firstBadN n p = none := by
  unfold firstBadN
  rw [List.find?_eq_none]
  intro x hx
  simp [h x (List.mem_range.1 hx)]
def verF (L : List Pa) (E : List Ef) (al : Nat → Ef → Bool) : Int × Int :=
  if rightH L = false then (0, 1) else match firstBadN E.length (vOk L E al) with
  | some i => (i, 170)
  | none => match firstBadN L.length (mOk L E) with
    | some i => (E.length + i, 170)
    | none => (0, 0)

/-! ### Lists that are not too long -/
theorem doR_fit {l : List Rk} {n : Nat} (h : ∀ c ∈ l, c.ok ∧ c.holds.length ≤ n ∧ c.used.length ≤ n) (k : Int) (nm : ByteArray) (a b x : Int) : (∀ c ∈ (doR l k nm a b x).1, c.ok ∧ c.holds.length ≤ n + 1 ∧ c.used.length ≤ n + 1) ∧ (doR l k nm a b x).1.length ≤ l.length + 1 := by
  have hl : (∀ c ∈ l, c.ok ∧ c.holds.length ≤ n + 1 ∧ c.used.length ≤ n + 1) ∧ l.length ≤ l.length + 1 := ⟨fun c hc => by obtain ⟨h1, h2, h3⟩ := h c hc; exact ⟨h1, by omega, by omega⟩, by omega⟩
  unfold doR
  by_cases hr : rightB k nm a b = false
  · rw [if_pos hr]; exact hl
  rw [if_neg hr]
  have hr' : rightB k nm a b = true := by simpa using hr
  by_cases k1 : k = 1
  · rw [if_pos k1]
    split
    · exact hl
    · split
      · exact hl
      · rename_i hab
        obtain ⟨l1, l2, h1, h2⟩ := kput_split ⟨nm, a, b, [], []⟩ l
        dsimp only
        rw [h2]
        have := (right_nums hr').1 k1
        constructor
        · intro c hc
          simp only [List.mem_append, List.mem_cons] at hc
          rcases hc with hc | rfl | hc
          · exact hl.1 c (by rw [h1]; simp [hc])
          · exact ⟨⟨by dsimp only; omega, by simp, by simp [hsum]; omega, by dsimp only; omega, by simp, by simp⟩, by simp, by simp⟩
          · exact hl.1 c (by rw [h1]; simp [hc])
        · rw [h1]; simp; omega
  rw [if_neg k1]
  split
  · exact hl
  · rename_i c hc
    split
    · exact hl
    · dsimp only
      have hcm : c ∈ l := by
        rw [kfind_iff] at hc
        exact List.mem_of_find?_eq_some hc
      obtain ⟨o1, o2, o3⟩ := h c hcm
      have := doneF_len c k a b x
      exact ⟨fun d hd => by
        rcases List.mem_or_eq_of_mem_set hd with hd | rfl
        · exact hl.1 d hd
        · exact ⟨doneF_ok o1 hr', by omega, by omega⟩, by simp⟩
theorem stR_fit (E : List Ef) : ∀ i, i ≤ E.length → (∀ c ∈ stR E i, c.ok ∧ c.holds.length ≤ i ∧ c.used.length ≤ i) ∧ (stR E i).length ≤ i
  | 0, _ => by simp [stR]
  | i + 1, hi => by
    obtain ⟨h1, h2⟩ := stR_fit E i (by omega)
    have hx : E[i]? = some E[i] := List.getElem?_eq_getElem _
    rw [stR_next hx]
    obtain ⟨d1, d2⟩ := doR_fit h1 E[i].k E[i].nm E[i].a E[i].b E[i].va
    unfold stepR
    split
    · exact ⟨d1, by omega⟩
    · exact ⟨fun c hc => by obtain ⟨h1, h2, h3⟩ := h1 c hc; exact ⟨h1, by omega, by omega⟩, by omega⟩

/-! ### New -/
abbrev G0 : List Rw := [hRow none 0 [], uRow none 0 []]
theorem G0_nil : NilG G0 := ⟨by simp, by simp⟩
theorem G0_R (w : World) : (arRes G0).R w := fun r hr => by
  simp only [List.mem_cons, List.not_mem_nil, or_false] at hr
  rcases hr with rfl | rfl
  · exact rowRes_nil _ _ _
  · exact rowRes_nil _ _ _
theorem rmNewA_ok (w : World) : Calls Try.prog 37 #[] w fun e w' => ∃ y : Nat, e = .returned (pV y) ∧ True ∧ FreshR w w' (rmaRes y (none, 0) [] G0) := by
  have hI0 : Inv (cx 3 [] [] w) w [0] [⟨117, [.res (cRes (none, 0) [])], true⟩] := (Inv.nil w).consR (fun x hx => by cases hx) (rowRes_nil _ _ _) (fun x hx => by cases hx) (fun _ x hx => by cases hx)
  have hI := hI0.consR (t := 3) (rw_ := true) (r := arRes G0) (fun x hx => by cases hx) (G0_R w) (fun x hx => by cases hx) (fun _ x hx => by cases hx)
  refine calls_sm (cx 3 [] [] w) (vals := []) mixed Try.func37 rfl rfl rfl hI rfl (st rfl ?_); conv => arg 3; whnf
  refine gw ?_
  refine n_ret rfl fun ids' w' hp hI' => ?_
  obtain ⟨p, rfl⟩ := ext1 hp (by rw [hI'.len]; rfl)
  refine ⟨_, rfl, p, rfl, trivial, ?_⟩
  exact fresh_shut hI' rfl [2, 0, 1] (.blk rfl rfl rfl rfl (.res rfl (.res rfl .nil))) (by simp)
end Go.Proofs.Ytfcbcgjgkleonaa
