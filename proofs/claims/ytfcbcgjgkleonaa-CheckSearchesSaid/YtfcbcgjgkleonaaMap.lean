/- Maps: what a map's block holds as a list of pairs; what Go's operations do to it. -/
import Derived.Test.YtfcbcgjgkleonaaRes
import Derived.Maps.Keyed
set_option linter.unusedVariables false
set_option linter.unusedSimpArgs false
set_option linter.unusedSectionVars false
namespace Go.Proofs.Ytfcbcgjgkleonaa
open Go.RowKit Go.MapKept
open Go.ChangeMaps (setBlock)
open Go.Maps (Keyed)

/-- Keys of a Lean type, as Go's. -/
structure KeyEnc (P : Program) (k : TypeId) (κ : Type) where
  ek : κ → Value
  ok : κ → Prop
  key : ∀ x, ok x → ∃ l, keyOf P k (ek x) = some l
  inj : ∀ x y, ek x = ek y → x = y

variable {P : Program} {k e t : TypeId} {κ ν : Type} [DecidableEq κ]

/-- Block b is a map of just these pairs. -/
def MapOf (E : KeyEnc P k κ) (ev : ν → Value) (w : World) (b : Nat) (m : List (κ × ν)) : Prop :=
  (∃ es clock, w.heap[b]? = some (.map es clock) ∧ Stamped es clock ∧ es.toList.map (fun x => (x.key, x.val)) = m.map (fun p => (E.ek p.1, ev p.2))) ∧ ∀ p ∈ m, E.ok p.1

def mget (m : List (κ × ν)) (x : κ) : Option ν := match m with
  | [] => none
  | p :: r => if p.1 = x then some p.2 else mget r x
def mput (m : List (κ × ν)) (x : κ) (y : ν) : List (κ × ν) := match m with
  | [] => [(x, y)]
  | p :: r => if p.1 = x then (x, y) :: r else p :: mput r x y
def mdel (m : List (κ × ν)) (x : κ) : List (κ × ν) := match m with
  | [] => []
  | p :: r => if p.1 = x then r else p :: mdel r x

theorem mget_put (m : List (κ × ν)) (x x' : κ) (y : ν) : mget (mput m x y) x' = if x = x' then some y else mget m x' := by
  induction m with
  | nil => simp [mput, mget]
  | cons p r ih =>
    simp only [mput]
    by_cases h : p.1 = x
    · rw [if_pos h]; simp only [mget]
      by_cases h2 : x = x'
      · simp [h2]
      · rw [if_neg h2, if_neg h2, if_neg (by rw [h]; exact h2)]
    · rw [if_neg h]; simp only [mget, ih]
      by_cases h2 : x = x'
      · subst h2; simp [h]
      · simp [h2]
theorem mput_keys (m : List (κ × ν)) (x : κ) (y : ν) : ∀ p ∈ mput m x y, p ∈ m ∨ p = (x, y) := by
  induction m with
  | nil => intro p hp; simp [mput] at hp; exact .inr hp
  | cons q r ih =>
    intro p hp
    simp only [mput] at hp
    split at hp
    · rcases List.mem_cons.1 hp with h | h
      · exact .inr h
      · exact .inl (List.mem_cons_of_mem _ h)
    · rcases List.mem_cons.1 hp with h | h
      · exact .inl (by rw [h]; exact List.mem_cons_self)
      · rcases ih p h with h | h
        · exact .inl (List.mem_cons_of_mem _ h)
        · exact .inr h
theorem mdel_sub (m : List (κ × ν)) (x : κ) : ∀ p ∈ mdel m x, p ∈ m := by
  induction m with
  | nil => intro p hp; simp [mdel] at hp
  | cons q r ih =>
    intro p hp
    simp only [mdel] at hp
    split at hp
    · exact List.mem_cons_of_mem _ hp
    · rcases List.mem_cons.1 hp with h | h
      · rw [h]; exact List.mem_cons_self
      · exact List.mem_cons_of_mem _ (ih p h)
theorem mget_some {m : List (κ × ν)} {x : κ} {y : ν} (h : mget m x = some y) : (x, y) ∈ m := by
  induction m with
  | nil => simp [mget] at h
  | cons p r ih =>
    simp only [mget] at h
    split at h
    · rename_i hx; simp at h; subst h; subst hx; exact List.mem_cons_self
    · exact List.mem_cons_of_mem _ (ih h)
theorem mget_none {m : List (κ × ν)} {x : κ} (h : mget m x = none) : ∀ p ∈ m, p.1 ≠ x := by
  induction m with
  | nil => intro p hp; simp at hp
  | cons q r ih =>
    intro p hp
    simp only [mget] at h
    split at h
    · cases h
    · rename_i hx
      rcases List.mem_cons.1 hp with rfl | hp
      · exact hx
      · exact ih h p hp

/-- The place of a key. -/
theorem mget_at : ∀ {m : List (κ × ν)} {j : Nat} {p : κ × ν}, (m.map (·.1)).Nodup → m[j]? = some p → mget m p.1 = some p.2 ∧ (∀ y, mput m p.1 y = m.set j (p.1, y)) ∧ mdel m p.1 = m.eraseIdx j
  | [], j, p, _, h => by simp at h
  | q :: r, 0, p, hn, h => by
    simp at h; subst h
    simp [mget, mput, mdel]
  | q :: r, j + 1, p, hn, h => by
    simp only [List.map_cons, List.nodup_cons] at hn
    simp at h
    have hne : q.1 ≠ p.1 := fun e => hn.1 (by rw [e]; exact List.mem_map.2 ⟨p, List.mem_of_getElem? h, rfl⟩)
    obtain ⟨h1, h2, h3⟩ := mget_at hn.2 h
    refine ⟨by simp [mget, hne, h1], fun y => by simp [mput, hne, h2], by simp [mdel, hne, h3]⟩
theorem mput_new : ∀ {m : List (κ × ν)} {x : κ}, (∀ p ∈ m, p.1 ≠ x) → mget m x = none ∧ (∀ y, mput m x y = m ++ [(x, y)]) ∧ mdel m x = m
  | [], x, _ => by simp [mget, mput, mdel]
  | q :: r, x, h => by
    have hq := h q (by simp)
    obtain ⟨h1, h2, h3⟩ := mput_new (m := r) (x := x) (fun p hp => h p (by simp [hp]))
    exact ⟨by simp [mget, hq, h1], fun y => by simp [mput, hq, h2], by simp [mdel, hq, h3]⟩

section
variable {E : KeyEnc P k κ} {ev : ν → Value} {w : World} {b : Nat} {m : List (κ × ν)}

theorem MapOf.nodup (h : MapOf E ev w b m) : (m.map (·.1)).Nodup := by
  obtain ⟨⟨es, clock, hb, hs, he⟩, hok⟩ := h
  have h1 := hs.2.2
  have h2 : es.toList.map (·.key) = (m.map (·.1)).map E.ek := by
    have := congrArg (List.map Prod.fst) he
    simpa [List.map_map, Function.comp_def] using this
  rw [h2] at h1
  exact (List.pairwise_map.1 h1).imp fun h e => h (congrArg E.ek e)

/-- Where a key stands in the block, and in the list. -/
theorem MapOf.find (K : Keyed P k) {es : Array MapEntry} {clock : Nat} (hs : Stamped es clock) (he : es.toList.map (fun x => (x.key, x.val)) = m.map (fun p => (E.ek p.1, ev p.2))) (hok : ∀ p ∈ m, E.ok p.1) (hnd : (m.map (·.1)).Nodup) (x : κ) (hx : E.ok x) :
    ((Instr.findKey k (E.ek x) es.toList).run P w = .ok none w ∧ (∀ z ∈ es.toList, z.key ≠ E.ek x) ∧ ∀ p ∈ m, p.1 ≠ x) ∨
    ∃ j e0 y, (Instr.findKey k (E.ek x) es.toList).run P w = .ok (some (j, ev y)) w ∧ es.toList[j]? = some e0 ∧ e0.key = E.ek x ∧ m[j]? = some (x, y) := by
  obtain ⟨lx, hlx⟩ := E.key x hx
  have hlen : es.toList.length = m.length := by simpa using congrArg List.length he
  have hat : ∀ j : Nat, (es.toList[j]?).map (fun z => (z.key, z.val)) = (m[j]?).map (fun p => (E.ek p.1, ev p.2)) := fun j => by
    have := congrArg (·[j]?) he
    simpa using this
  have hkeys : ∀ z ∈ es.toList, ∃ l, keyOf P k z.key = some l := by
    intro z hz
    obtain ⟨j, hj⟩ := List.getElem?_of_mem hz
    have := hat j
    rw [hj] at this
    cases hm : m[j]? with
    | none => rw [hm] at this; simp at this
    | some p =>
      rw [hm] at this; simp at this
      rw [this.1]
      exact E.key _ (hok p (List.mem_of_getElem? hm))
  rcases K.find w hlx es.toList hkeys with ⟨h1, h2⟩ | ⟨j, e0, h1, h2, h3⟩
  · refine .inl ⟨h1, h2, fun p hp e => ?_⟩
    obtain ⟨j, hj⟩ := List.getElem?_of_mem hp
    have := hat j
    rw [hj] at this
    cases hm : es.toList[j]? with
    | none => rw [hm] at this; simp at this
    | some z =>
      rw [hm] at this; simp at this
      exact h2 z (List.mem_of_getElem? hm) (by rw [this.1, e])
  · have := hat j
    rw [h2] at this
    cases hm : m[j]? with
    | none => rw [hm] at this; simp at this
    | some p =>
      rw [hm] at this; simp at this
      have hpx : p.1 = x := E.inj _ _ (by rw [← this.1, h3])
      refine .inr ⟨j, e0, p.2, by rw [← this.2]; exact h1, h2, h3, by rw [hm, ← hpx]⟩

theorem run_getObj_map {w : World} {b : Nat} {es : Array MapEntry} {clock : Nat} (hb : w.heap[b]? = some (.map es clock)) : (getObj b).run P w = .ok (.map es clock) w := MapKept.run_getObj_map hb

theorem MapOf.lookup (K : Keyed P k) (h : MapOf E ev w b m) (ht : P.underlying t = some (.map k e)) (x : κ) (hx : E.ok x) {z : Value} (hz : (zeroValue e).run P w = .ok z w) (c : Bool) :
    (Instr.lookup t (.map (some b)) (E.ek x) c).run P w = .ok (if c then .tuple #[((mget m x).map ev).getD z, .bool (mget m x).isSome] else ((mget m x).map ev).getD z) w := by
  have hnd := h.nodup
  obtain ⟨⟨es, clock, hb, hs, he⟩, hok⟩ := h
  obtain ⟨lx, hlx⟩ := E.key x hx
  rcases MapOf.find (w := w) K hs he hok hnd x hx with ⟨h1, _, h3⟩ | ⟨j, e0, y, h1, _, _, h4⟩
  · have h5 := (mput_new h3).1
    simp only [Instr.lookup, Sem.run_bind, run_underlying ht, Result.andThen_ok, MapKept.run_getObj_map hb, Sem.run_pure, K.check w _ hlx, h1, hz, h5, Option.map_none, Option.getD_none, Option.isSome_none]
  · have h5 := (mget_at hnd h4).1
    simp only [Instr.lookup, Sem.run_bind, run_underlying ht, Result.andThen_ok, MapKept.run_getObj_map hb, Sem.run_pure, K.check w _ hlx, h1, h5, Option.map_some, Option.getD_some, Option.isSome_some]

theorem frm_setBlock (w : World) (b : Nat) (o : Obj) : Frm [b] w (setBlock w b o) :=
  ⟨rfl, rfl, rfl, by simp [setBlock], fun k hk hn => by
    simp at hn
    simp only [setBlock, Array.getElem?_setIfInBounds]
    rw [if_neg (fun e => hn e.symm)]⟩

theorem MapOf.update (K : Keyed P k) (h : MapOf E ev w b m) (ht : P.underlying t = some (.map k e)) (x : κ) (hx : E.ok x) (y : ν) :
    ∃ w', (Instr.mapUpdate t (.map (some b)) (E.ek x) (ev y)).run P w = .ok () w' ∧ Frm [b] w w' ∧ MapOf E ev w' b (mput m x y) := by
  have hnd := h.nodup
  obtain ⟨⟨es, clock, hb, hs, he⟩, hok⟩ := h
  have hbl : b < w.heap.size := (Array.getElem?_eq_some_iff.1 hb).1
  obtain ⟨lx, hlx⟩ := E.key x hx
  have hok' : ∀ p ∈ mput m x y, E.ok p.1 := fun p hp => by
    rcases mput_keys m x y p hp with h | rfl
    · exact hok p h
    · exact hx
  have hself : ∀ o, (setBlock w b o).heap[b]? = some o := fun o => by simp [setBlock, hbl]
  rcases MapOf.find (w := w) K hs he hok hnd x hx with ⟨h1, h2, h3⟩ | ⟨j, e0, y0, h1, h2, h3, h4⟩
  · refine ⟨setBlock w b (.map (es.push ⟨E.ek x, ev y, clock⟩) (clock + 1)), ?_, frm_setBlock _ _ _, ⟨_, _, hself _, stamped_push hs h2, ?_⟩, hok'⟩
    · simp [Instr.mapUpdate, run_underlying ht, MapKept.run_getObj_map hb, K.check w false hlx, h1, MapKept.run_setObj_map _ hb, Result.andThen, setBlock]
    · rw [(mput_new h3).2.1]
      simp [he]
  · have hj : es[j]? = some e0 := by simpa using h2
    refine ⟨setBlock w b (.map (es.modify j (fun e' => { e' with key := E.ek x, val := ev y })) clock), ?_, frm_setBlock _ _ _, ⟨_, _, hself _, ?_, ?_⟩, hok'⟩
    · simp [Instr.mapUpdate, run_underlying ht, MapKept.run_getObj_map hb, K.check w false hlx, h1, hj, h3, K.stays w hlx, MapKept.run_setObj_map _ hb, Result.andThen, setBlock]
    · exact stamped_modify hs _ _ (fun _ _ => rfl) (fun e' _ he' => by rw [hj] at he'; cases he'; exact h3.symm)
    · rw [(mget_at hnd h4).2.1, Array.toList_modify, ChangeMaps.modify_eq_set _ _ _ _ h2, List.map_set, he, List.map_set]

theorem MapOf.delete (K : Keyed P k) (h : MapOf E ev w b m) (ht : P.underlying t = some (.map k e)) (x : κ) (hx : E.ok x) (ty : TypeId) :
    ∃ w', (Builtin.delete_ #[t, k] ty #[.map (some b), E.ek x]).run P w = .ok (.tuple #[]) w' ∧ Frm [b] w w' ∧ MapOf E ev w' b (mdel m x) := by
  have hnd := h.nodup
  obtain ⟨⟨es, clock, hb, hs, he⟩, hok⟩ := h
  have hbl : b < w.heap.size := (Array.getElem?_eq_some_iff.1 hb).1
  obtain ⟨lx, hlx⟩ := E.key x hx
  have hok' : ∀ p ∈ mdel m x, E.ok p.1 := fun p hp => hok p (mdel_sub m x p hp)
  have hself : ∀ o, (setBlock w b o).heap[b]? = some o := fun o => by simp [setBlock, hbl]
  rcases MapOf.find (w := w) K hs he hok hnd x hx with ⟨h1, h2, h3⟩ | ⟨j, e0, y0, h1, h2, h3, h4⟩
  · refine ⟨setBlock w b (.map es clock), ?_, frm_setBlock _ _ _, ⟨es, clock, hself _, hs, ?_⟩, hok'⟩
    · simp [Builtin.delete_, run_underlying ht, MapKept.run_getObj_map hb, K.check w _ hlx, h1, MapKept.run_setObj_map _ hb, Result.andThen, setBlock]
    · rw [(mput_new h3).2.2]; exact he
  · have hjs : j < es.size := by have := (List.getElem?_eq_some_iff.1 h2).1; simpa using this
    have hsub : (es.eraseIdxIfInBounds j).toList = es.toList.eraseIdx j := by
      unfold Array.eraseIdxIfInBounds
      rw [dif_pos hjs]
      simp
    refine ⟨setBlock w b (.map (es.eraseIdxIfInBounds j) clock), ?_, frm_setBlock _ _ _, ⟨_, _, hself _, stamped_erase hs j, ?_⟩, hok'⟩
    · simp [Builtin.delete_, run_underlying ht, MapKept.run_getObj_map hb, K.check w _ hlx, h1, MapKept.run_setObj_map _ hb, Result.andThen, setBlock]
    · rw [(mget_at hnd h4).2.2, hsub, ChangeMaps.map_eraseIdx, he, ChangeMaps.map_eraseIdx]

theorem MapOf.len (h : MapOf E ev w b m) (ht : P.underlying t = some (.map k e)) (ty : TypeId) : (Builtin.len_ #[t] ty #[.map (some b)]).run P w = .ok (.int .i64 (m.length : Int)) w := by
  obtain ⟨⟨es, clock, hb, hs, he⟩, hok⟩ := h
  have hlen : es.size = m.length := by simpa using congrArg List.length he
  simp [Builtin.len_, run_underlying ht, MapKept.run_getObj_map hb, hlen, goInt]

theorem MapOf.keep {w' : World} (h : MapOf E ev w b m) (hb : w'.heap[b]? = w.heap[b]?) : MapOf E ev w' b m := by
  obtain ⟨⟨es, clock, h1, h2⟩, hok⟩ := h
  exact ⟨⟨es, clock, hb.trans h1, h2⟩, hok⟩
theorem MapOf.lt (h : MapOf E ev w b m) : b < w.heap.size := by
  obtain ⟨⟨es, clock, h1, h2⟩, hok⟩ := h
  exact (Array.getElem?_eq_some_iff.1 h1).1
theorem MapOf.made (E : KeyEnc P k κ) (ev : ν → Value) (w : World) : MapOf E ev (w.alloc (.map #[] 0)) w.heap.size [] :=
  ⟨⟨#[], 0, (MapKept.heap_alloc w _).1, stamped_empty 0, rfl⟩, by simp⟩
end
end Go.Proofs.Ytfcbcgjgkleonaa
