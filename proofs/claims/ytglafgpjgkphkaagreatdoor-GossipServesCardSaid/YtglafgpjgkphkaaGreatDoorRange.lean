/- Ranging over a map in the machine. -/
import Derived.Test.YtglafgpjgkphkaaGreatDoorBnX
import Derived.Maps.RangeRun
import Derived.Maps.Range
set_option linter.unusedVariables false
set_option linter.unusedSimpArgs false
set_option linter.unusedSectionVars false
namespace Go.Proofs.YtglafgpjgkphkaaGreatDoor
open Go.RowKit
open Go.Maps (Keyed)
open Go.MapKept (Stamped)
open Go.ChangeMaps (setBlock)

section
variable {c : Ctx} {Q : SExit → Fr → Mem → List Nat → World → Prop} {ids : List Nat} {w : World} {fr : Fr} {mem : Mem} {todo : List Task}
variable {k e t : TypeId} {κ ν : Type} [DecidableEq κ] {E : KeyEnc c.P k κ} {ev' : ν → Value}

/-- A part told anew, in the same world. -/
theorem Inv.retell (hI : Inv c w ids mem) (i : Nat) {b : SBlk} {ρ ρ' : Res} (hb : nth mem i = some b) (hr : resOf b = some ρ) (hR : ρ'.R w) (hfp : ρ'.fp = ρ.fp) : Inv c w ids (setCells mem i [.res ρ']) := by
  rw [setCells_eq hb]
  have hat : ∀ j b', nth (setNth mem i { b with cells := [.res ρ'] }) j = some b' → (j = i ∧ b' = { b with cells := [.res ρ'] }) ∨ (j ≠ i ∧ nth mem j = some b') := by
    intro j b' hj
    rw [nth_setNth] at hj
    split at hj
    · rename_i hij
      rw [if_pos (nth_lt hb)] at hj
      exact .inl ⟨hij.symm, by simpa using hj.symm⟩
    · rename_i hij; exact .inr ⟨fun e => hij e.symm, hj⟩
  have hr' : resOf { b with cells := [SV.res ρ'] } = some ρ' := rfl
  refine hI.step (Frm.refl [] w) (by simp) (by simp [setNth_len]) ?_ ?_
  · intro j b' hj
    rcases hat j b' hj with ⟨rfl, rfl⟩ | ⟨hij, hj⟩
    · refine ⟨b, hb, rfl, ?_, .inr ⟨hR, fun x hx => hI.resLt j hb hr x (hfp ▸ hx)⟩⟩
      rw [fpOf_res hr', fpOf_res hr, hfp]
      exact fun x hx => .inl hx
    · exact ⟨b', hj, rfl, fun x hx => .inl hx, .inl ⟨rfl, by simp⟩⟩
  · intro j l bj bk hj hk hjk x hx hxs hxk
    rcases hat j bj hj with ⟨rfl, rfl⟩ | ⟨hij, hj⟩
    · rw [fpOf_res hr'] at hx
      have := hI.resLt j hb hr x (hfp ▸ hx)
      omega
    · have := (hI.good j bj hj).lt x hx
      omega

/-- A part, and just how the map of its block b lies there. -/
def mapAt (ρ : Res) (b : Nat) (es : Array MapEntry) (clock : Nat) (hb : b ∈ ρ.fp) : Res where
  fp := ρ.fp
  R w := ρ.R w ∧ w.heap[b]? = some (.map es clock)
  stable := fun w w' hk h => ⟨ρ.stable w w' hk h.1, (hk b hb).trans h.2⟩
/-- An iterator over the map of block b. -/
def iterRes (it b since : Nat) (seen : Array Nat) (last : Nat) : Res where
  fp := [it]
  R w := w.heap[it]? = some (.mapIter (some b) since seen last)
  stable := fun w w' hk h => (hk it (by simp)).trans h

/-- range m. -/
theorem n_range {o : Oper} {x : Operand} {b : Nat} (i : Nat) {bl : SBlk} {ρ : Res} (m : List (κ × ν)) (ty : TypeId) (ho : o.op = .range t x) (hd : dstOk c o.dst = true) (ht : c.P.underlying t = some (.map k e)) (hl : mem.length = ids.length)
    (hx : ev fr x = some (.raw (.map (some b)))) (hb : nth mem i = some bl) (hres : resOf bl = some ρ) (hbf : b ∈ ρ.fp) (h : ∀ w, ρ.R w → MapOf E ev' w b m)
    (hk : ∀ es clock it, Stamped es clock → es.toList.map (fun x => (x.key, x.val)) = m.map (fun p => (E.ek p.1, ev' p.2)) → c.w0.heap.size ≤ it →
      satS c Q ⟨putF o.dst (.raw (.pointer (some ⟨it, 0, none⟩))) fr, setCells mem i [.res (mapAt ρ b es clock hbf)] ++ [⟨ty, [.res (iterRes it b clock #[] clock)], true⟩], todo⟩ (ids ++ [0])) : satN c Q (.op o ⟨fr, mem, todo⟩) ids :=
  n_run hd fun ids' w ρ0 hp hI hρ => by
    obtain rfl := ext0 hp (by rw [hI.len, hl])
    have hx' := hρ x _ hx
    simp only [den, Option.some.injEq] at hx'
    have hR := hI.res i hb hres
    obtain ⟨⟨es, clock, h1, h2, h3⟩, h4⟩ := h w hR
    have hrun := run_range_map w t k e b es clock ht h1
    have hI1 := hI.retell i (ρ' := mapAt ρ b es clock hbf) hb hres ⟨hR, h1⟩ rfl
    refine ⟨_, _, .raw (.pointer (some ⟨w.heap.size, 0, none⟩)), _, _, ?_, rfl, List.prefix_append _ _, hI1.addR ((Frm.refl [] w).alloc (.mapIter (some b) clock #[] clock)) (iterRes w.heap.size b clock #[] clock) ty true (MapKept.heap_alloc w _).1 (by simp [iterRes]) (by simp [iterRes]), hk es clock _ h2 h3 hI.frm.size⟩
    unfold execOp
    simp [ho, ← hx', hrun]

/-- The next entry, whichever it is. -/
theorem n_next {o : Oper} {x : Operand} {b it clock : Nat} {seen : Array Nat} {es : Array MapEntry} (i j : Nat) {bi bj : SBlk} {ρ : Res} {hbf : b ∈ ρ.fp} (ho : o.op = .next x false) (hd : dstOk c o.dst = true) (hst : Stamped es clock)
    (hx : ev fr x = some (.raw (.pointer (some ⟨it, 0, none⟩)))) (hb : nth mem i = some bi) (hres : resOf bi = some (mapAt ρ b es clock hbf)) (hbj : nth mem j = some bj) (hresj : resOf bj = some (iterRes it b clock seen clock)) (hrw : bj.rw = true)
    (h0 : (∀ x ∈ es.toList, seen.contains x.born = true) → satS c Q ⟨putF o.dst (.tup [.lit false]) fr, mem, todo⟩ ids)
    (h1 : ∀ x ∈ es.toList, seen.contains x.born = false → satS c Q ⟨putF o.dst (.tup [.lit true, .raw x.key, .raw x.val]) fr, setCells mem j [.res (iterRes it b clock (seen.push x.born) clock)], todo⟩ ids) : satN c Q (.op o ⟨fr, mem, todo⟩) ids :=
  n_run hd fun ids' w ρ0 hp hI hρ => by
    have hx' := hρ x _ hx
    simp only [den, Option.some.injEq] at hx'
    have hm : w.heap[b]? = some (.map es clock) := (hI.res i hb hres).2
    have hi : w.heap[it]? = some (.mapIter (some b) clock seen clock) := hI.res j hbj hresj
    have hlt := (Array.getElem?_eq_some_iff.1 hi).1
    rcases run_next_at (P := c.P) w o.type it b clock clock seen es clock hi hm hst.1 (Nat.le_refl _) with ⟨h, hrun⟩ | ⟨x1, hx1, w1, hw1, hrun⟩
    · refine ⟨_, w, .tup [.lit false], mem, ids', ?_, rfl, List.prefix_refl _, hI, satS_mono hp (h0 fun x hx => ?_)⟩
      · unfold execOp
        simp [ho, ← hx', hrun]
      · have he : leftOf es seen = #[] := Array.eq_empty_of_size_eq_zero h
        unfold leftOf at he
        rw [Array.filter_eq_empty_iff] at he
        have := he x (by simpa using hx)
        simpa using this
    · have hx2 : x1 ∈ es.toList ∧ seen.contains x1.born = false := by
        unfold leftOf at hx1
        simp at hx1
        exact ⟨by simpa using hx1.1, by simpa using hx1.2⟩
      have hf : Frm [it] w (setBlock w1 it (.mapIter (some b) clock (seen.push x1.born) clock)) := by
        rcases hw1 with rfl | rfl
        · exact frm_setBlock _ _ _
        · exact ((Frm.refl [it] w).drew).trans (frm_setBlock _ _ _)
      refine ⟨_, _, .tup [.lit true, .raw x1.key, .raw x1.val], _, ids', ?_, rfl, List.prefix_refl _, hI.updR (ρ' := iterRes it b clock (seen.push x1.born) clock) j hbj hresj hrw hf ?_ (fun x hx => .inl hx) (fun x hx => ?_), satS_mono hp (h1 x1 hx2.1 hx2.2)⟩
      · unfold execOp
        simp [ho, ← hx', hrun]
      · have : it < w1.heap.size := by rcases hw1 with rfl | rfl <;> exact hlt
        simp [iterRes, setBlock, this]
      · simp [iterRes] at hx; subst hx
        exact Nat.lt_of_lt_of_le hlt hf.size
/-- The entry that came. -/
theorem n_entry {o : Oper} {x : Operand} {b it clock : Nat} {seen : Array Nat} {es : Array MapEntry} (i j : Nat) {bi bj : SBlk} {ρ : Res} {hbf : b ∈ ρ.fp} (x1 : MapEntry) (r : SV) (ho : o.op = .entry x) (hd : dstOk c o.dst = true) (hst : Stamped es clock) (hx1 : x1 ∈ es.toList)
    (hx : ev fr x = some (.raw (.pointer (some ⟨it, 0, none⟩)))) (hb : nth mem i = some bi) (hres : resOf bi = some (mapAt ρ b es clock hbf)) (hbj : nth mem j = some bj) (hresj : resOf bj = some (iterRes it b clock (seen.push x1.born) clock)) (hr : den ids r = some (.tuple #[x1.key, x1.val]))
    (hk : satS c Q ⟨putF o.dst r fr, mem, todo⟩ ids) : satN c Q (.op o ⟨fr, mem, todo⟩) ids :=
  n_run hd fun ids' w ρ0 hp hI hρ => by
    have hx' := hρ x _ hx
    simp only [den, Option.some.injEq] at hx'
    have hm : w.heap[b]? = some (.map es clock) := (hI.res i hb hres).2
    have hi : w.heap[it]? = some (.mapIter (some b) clock (seen.push x1.born) clock) := hI.res j hbj hresj
    have hrun := run_entry_at (P := c.P) w it b clock seen es clock x1 hi hm hx1 hst.2.1
    refine ⟨_, w, r, mem, ids', ?_, den_mono hp _ _ hr, List.prefix_refl _, hI, satS_mono hp hk⟩
    unfold execOp
    simp [ho, ← hx', hrun]
end
/-- The entries that are still to come. -/
def leftN (es : Array MapEntry) (seen : Array Nat) : Nat := es.toList.countP fun x => !seen.contains x.born
theorem countP_lt {α : Type} {p q : α → Bool} (hpq : ∀ x, q x = true → p x = true) : ∀ {l : List α} {x : α}, x ∈ l → p x = true → q x = false → l.countP q < l.countP p
  | y :: l, x, hx, hp, hq => by
    have hle : l.countP q ≤ l.countP p := List.countP_mono_left fun x _ h => hpq x h
    rcases List.mem_cons.1 hx with rfl | hx
    · have a := List.countP_cons_of_pos (p := p) (l := l) hp
      have b := List.countP_cons_of_neg (p := q) (l := l) (a := x) (by simp [hq])
      omega
    · have ih := countP_lt hpq hx hp hq
      by_cases h : q y = true
      · have a := List.countP_cons_of_pos (p := p) (l := l) (hpq y h)
        have b := List.countP_cons_of_pos (p := q) (l := l) h
        omega
      · by_cases h' : p y = true
        · have a := List.countP_cons_of_pos (p := p) (l := l) h'
          have b := List.countP_cons_of_neg (p := q) (l := l) h
          omega
        · have a := List.countP_cons_of_neg (p := p) (l := l) h'
          have b := List.countP_cons_of_neg (p := q) (l := l) h
          omega
theorem leftN_lt {es : Array MapEntry} {seen : Array Nat} {x : MapEntry} (hx : x ∈ es.toList) (hs : seen.contains x.born = false) : leftN es (seen.push x.born) < leftN es seen := by
  refine countP_lt (fun y h => ?_) hx (by simpa using hs) (by simp)
  simp at h ⊢
  exact h.1

/-- A sum over the entries that have come. -/
def seenSum (f : MapEntry → Int) (es : Array MapEntry) (seen : Array Nat) : Int := (es.toList.map fun x => if seen.contains x.born then f x else 0).sum
theorem sum_flip {α : Type} {f g : α → Int} {y : Int} : ∀ {l : List α} {x : α}, l.Nodup → x ∈ l → (∀ z ∈ l, z ≠ x → g z = f z) → g x = f x + y → (l.map g).sum = (l.map f).sum + y
  | [], x, _, hx, _, _ => by simp at hx
  | a :: l, x, hn, hx, h1, h2 => by
    simp only [List.map_cons, List.sum_cons]
    rw [List.nodup_cons] at hn
    by_cases e : a = x
    · subst e
      have : l.map g = l.map f := List.map_congr_left fun z hz => h1 z (by simp [hz]) fun e => hn.1 (e ▸ hz)
      rw [this, h2]; omega
    · have hx' : x ∈ l := by simpa [Ne.symm e] using hx
      rw [sum_flip hn.2 hx' (fun z hz => h1 z (by simp [hz])) h2, h1 a (by simp) e]; omega
theorem born_nodup {es : Array MapEntry} {clock : Nat} (hst : Stamped es clock) : es.toList.Nodup := by
  have h := ((MapKept.stamped_iff es clock).1 hst).2.2
  exact h.imp fun h e => h (by rw [e])
theorem seenSum_push {f : MapEntry → Int} {es : Array MapEntry} {clock : Nat} {seen : Array Nat} {x : MapEntry} (hst : Stamped es clock) (hx : x ∈ es.toList) (hs : seen.contains x.born = false) : seenSum f es (seen.push x.born) = seenSum f es seen + f x := by
  unfold seenSum
  refine sum_flip (born_nodup hst) hx (fun z hz hne => ?_) ?_
  · have hb : z.born ≠ x.born := fun e => hne (born_inj ((MapKept.stamped_iff es clock).1 hst).2.1 hz hx e)
    simp [hb]
  · rw [hs]; simp
theorem seenSum_all {f : MapEntry → Int} {es : Array MapEntry} {seen : Array Nat} (h : ∀ x ∈ es.toList, seen.contains x.born = true) : seenSum f es seen = (es.toList.map f).sum := by
  unfold seenSum
  congr 1
  exact List.map_congr_left fun x hx => by rw [h x hx]; rfl
theorem seenSum_none {f : MapEntry → Int} {es : Array MapEntry} : seenSum f es #[] = 0 := by
  unfold seenSum
  simp
  induction es.toList with
  | nil => rfl
  | cons a l ih => simpa using ih
end Go.Proofs.YtglafgpjgkphkaaGreatDoor
