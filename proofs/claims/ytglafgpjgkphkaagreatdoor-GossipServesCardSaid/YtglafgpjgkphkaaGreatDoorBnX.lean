/- Maps: what a map's block holds as a list of pairs; what Go's operations do to it. Maps in the machine: look-ups, stores, new maps. More of calls and operations: a call that changes a block and a part, a call that leaves a new part, the bytes of a string. -/
import Derived.Test.YtglafgpjgkphkaaGreatDoorRes
import Derived.Maps.Keyed
import Derived.Lib.ConvBytes
namespace Go.Proofs.YtglafgpjgkphkaaGreatDoor
section
set_option linter.unusedVariables false
set_option linter.unusedSimpArgs false
set_option linter.unusedSectionVars false
open Go.RowKit Go.MapKept
open Go.ChangeMaps (setBlock)
open Go.Maps (Keyed)

/-- Keys of a Lean type, as Go's. -/
structure KeyEnc (P : Program) (k : TypeId) (κ : Type) where
  ek : κ → Value
  ok : κ → Prop
  key : ∀ x, ok x → ∃ l, keyOf P k (ek x) = some l
  inj : ∀ x y, ek x = ek y → x = y

variable {P : Program} {k e t : TypeId} {κ ν : Type} [DecidableEq κ]

/-- Block b is a map of just these pairs. -/
def MapOf (E : KeyEnc P k κ) (ev : ν → Value) (w : World) (b : Nat) (m : List (κ × ν)) : Prop :=
  (∃ es clock, w.heap[b]? = some (.map es clock) ∧ Stamped es clock ∧ es.toList.map (fun x => (x.key, x.val)) = m.map (fun p => (E.ek p.1, ev p.2))) ∧ ∀ p ∈ m, E.ok p.1

def mget (m : List (κ × ν)) (x : κ) : Option ν := match m with
  | [] => none
  | p :: r => if p.1 = x then some p.2 else mget r x
def mput (m : List (κ × ν)) (x : κ) (y : ν) : List (κ × ν) := match m with
  | [] => [(x, y)]
  | p :: r => if p.1 = x then (x, y) :: r else p :: mput r x y
def mdel (m : List (κ × ν)) (x : κ) : List (κ × ν) := match m with
  | [] => []
  | p :: r => if p.1 = x then r else p :: mdel r x

theorem mget_put (m : List (κ × ν)) (x x' : κ) (y : ν) : mget (mput m x y) x' = if x = x' then some y else mget m x' := by
  induction m with
  | nil => simp [mput, mget]
  | cons p r ih =>
    simp only [mput]
    by_cases h : p.1 = x
    · rw [if_pos h]; simp only [mget]
      by_cases h2 : x = x'
      · simp [h2]
      · rw [if_neg h2, if_neg h2, if_neg (by rw [h]; exact h2)]
    · rw [if_neg h]; simp only [mget, ih]
      by_cases h2 : x = x'
      · subst h2; simp [h]
      · simp [h2]
theorem mput_keys (m : List (κ × ν)) (x : κ) (y : ν) : ∀ p ∈ mput m x y, p ∈ m ∨ p = (x, y) := by
  induction m with
  | nil => intro p hp; simp [mput] at hp; exact .inr hp
  | cons q r ih =>
    intro p hp
    simp only [mput] at hp
    split at hp
    · rcases List.mem_cons.1 hp with h | h
      · exact .inr h
      · exact .inl (List.mem_cons_of_mem _ h)
    · rcases List.mem_cons.1 hp with h | h
      · exact .inl (by rw [h]; exact List.mem_cons_self)
      · rcases ih p h with h | h
        · exact .inl (List.mem_cons_of_mem _ h)
        · exact .inr h
theorem mdel_sub (m : List (κ × ν)) (x : κ) : ∀ p ∈ mdel m x, p ∈ m := by
  induction m with
  | nil => intro p hp; simp [mdel] at hp
  | cons q r ih =>
    intro p hp
    simp only [mdel] at hp
    split at hp
    · exact List.mem_cons_of_mem _ hp
    · rcases List.mem_cons.1 hp with h | h
      · rw [h]; exact List.mem_cons_self
      · exact List.mem_cons_of_mem _ (ih p h)
theorem mget_some {m : List (κ × ν)} {x : κ} {y : ν} (h : mget m x = some y) : (x, y) ∈ m := by
  induction m with
  | nil => simp [mget] at h
  | cons p r ih =>
    simp only [mget] at h
    split at h
    · rename_i hx; simp at h; subst h; subst hx; exact List.mem_cons_self
    · exact List.mem_cons_of_mem _ (ih h)
theorem mget_none {m : List (κ × ν)} {x : κ} (h : mget m x = none) : ∀ p ∈ m, p.1 ≠ x := by
  induction m with
  | nil => intro p hp; simp at hp
  | cons q r ih =>
    intro p hp
    simp only [mget] at h
    split at h
    · cases h
    · rename_i hx
      rcases List.mem_cons.1 hp with rfl | hp
      · exact hx
      · exact ih h p hp

/-- The place of a key. -/
theorem mget_at : ∀ {m : List (κ × ν)} {j : Nat} {p : κ × ν}, (m.map (·.1)).Nodup → m[j]? = some p → mget m p.1 = some p.2 ∧ (∀ y, mput m p.1 y = m.set j (p.1, y)) ∧ mdel m p.1 = m.eraseIdx j
  | [], j, p, _, h => by simp at h
  | q :: r, 0, p, hn, h => by
    simp at h; subst h
    simp [mget, mput, mdel]
  | q :: r, j + 1, p, hn, h => by
    simp only [List.map_cons, List.nodup_cons] at hn
    simp at h
    have hne : q.1 ≠ p.1 := fun e => hn.1 (by rw [e]; exact List.mem_map.2 ⟨p, List.mem_of_getElem? h, rfl⟩)
    obtain ⟨h1, h2, h3⟩ := mget_at hn.2 h
    refine ⟨by simp [mget, hne, h1], fun y => by simp [mput, hne, h2], by simp [mdel, hne, h3]⟩
theorem mput_new : ∀ {m : List (κ × ν)} {x : κ}, (∀ p ∈ m, p.1 ≠ x) → mget m x = none ∧ (∀ y, mput m x y = m ++ [(x, y)]) ∧ mdel m x = m
  | [], x, _ => by simp [mget, mput, mdel]
  | q :: r, x, h => by
    have hq := h q (by simp)
    obtain ⟨h1, h2, h3⟩ := mput_new (m := r) (x := x) (fun p hp => h p (by simp [hp]))
    exact ⟨by simp [mget, hq, h1], fun y => by simp [mput, hq, h2], by simp [mdel, hq, h3]⟩

section
variable {E : KeyEnc P k κ} {ev : ν → Value} {w : World} {b : Nat} {m : List (κ × ν)}

theorem MapOf.nodup (h : MapOf E ev w b m) : (m.map (·.1)).Nodup := by
  obtain ⟨⟨es, clock, hb, hs, he⟩, hok⟩ := h
  have h1 := hs.2.2
  have h2 : es.toList.map (·.key) = (m.map (·.1)).map E.ek := by
    have := congrArg (List.map Prod.fst) he
    simpa [List.map_map, Function.comp_def] using this
  rw [h2] at h1
  exact (List.pairwise_map.1 h1).imp fun h e => h (congrArg E.ek e)

/-- Where a key stands in the block, and in the list. -/
theorem MapOf.find (K : Keyed P k) {es : Array MapEntry} {clock : Nat} (hs : Stamped es clock) (he : es.toList.map (fun x => (x.key, x.val)) = m.map (fun p => (E.ek p.1, ev p.2))) (hok : ∀ p ∈ m, E.ok p.1) (hnd : (m.map (·.1)).Nodup) (x : κ) (hx : E.ok x) :
    ((Instr.findKey k (E.ek x) es.toList).run P w = .ok none w ∧ (∀ z ∈ es.toList, z.key ≠ E.ek x) ∧ ∀ p ∈ m, p.1 ≠ x) ∨
    ∃ j e0 y, (Instr.findKey k (E.ek x) es.toList).run P w = .ok (some (j, ev y)) w ∧ es.toList[j]? = some e0 ∧ e0.key = E.ek x ∧ m[j]? = some (x, y) := by
  obtain ⟨lx, hlx⟩ := E.key x hx
  have hlen : es.toList.length = m.length := by simpa using congrArg List.length he
  have hat : ∀ j : Nat, (es.toList[j]?).map (fun z => (z.key, z.val)) = (m[j]?).map (fun p => (E.ek p.1, ev p.2)) := fun j => by
    have := congrArg (·[j]?) he
    simpa using this
  have hkeys : ∀ z ∈ es.toList, ∃ l, keyOf P k z.key = some l := by
    intro z hz
    obtain ⟨j, hj⟩ := List.getElem?_of_mem hz
    have := hat j
    rw [hj] at this
    cases hm : m[j]? with
    | none => rw [hm] at this; simp at this
    | some p =>
      rw [hm] at this; simp at this
      rw [this.1]
      exact E.key _ (hok p (List.mem_of_getElem? hm))
  rcases K.find w hlx es.toList hkeys with ⟨h1, h2⟩ | ⟨j, e0, h1, h2, h3⟩
  · refine .inl ⟨h1, h2, fun p hp e => ?_⟩
    obtain ⟨j, hj⟩ := List.getElem?_of_mem hp
    have := hat j
    rw [hj] at this
    cases hm : es.toList[j]? with
    | none => rw [hm] at this; simp at this
    | some z =>
      rw [hm] at this; simp at this
      exact h2 z (List.mem_of_getElem? hm) (by rw [this.1, e])
  · have := hat j
    rw [h2] at this
    cases hm : m[j]? with
    | none => rw [hm] at this; simp at this
    | some p =>
      rw [hm] at this; simp at this
      have hpx : p.1 = x := E.inj _ _ (by rw [← this.1, h3])
      refine .inr ⟨j, e0, p.2, by rw [← this.2]; exact h1, h2, h3, by rw [hm, ← hpx]⟩

theorem run_getObj_map {w : World} {b : Nat} {es : Array MapEntry} {clock : Nat} (hb : w.heap[b]? = some (.map es clock)) : (getObj b).run P w = .ok (.map es clock) w := MapKept.run_getObj_map hb

theorem MapOf.lookup (K : Keyed P k) (h : MapOf E ev w b m) (ht : P.underlying t = some (.map k e)) (x : κ) (hx : E.ok x) {z : Value} (hz : (zeroValue e).run P w = .ok z w) (c : Bool) :
    (Instr.lookup t (.map (some b)) (E.ek x) c).run P w = .ok (if c then .tuple #[((mget m x).map ev).getD z, .bool (mget m x).isSome] else ((mget m x).map ev).getD z) w := by
  have hnd := h.nodup
  obtain ⟨⟨es, clock, hb, hs, he⟩, hok⟩ := h
  obtain ⟨lx, hlx⟩ := E.key x hx
  rcases MapOf.find (w := w) K hs he hok hnd x hx with ⟨h1, _, h3⟩ | ⟨j, e0, y, h1, _, _, h4⟩
  · have h5 := (mput_new h3).1
    simp only [Instr.lookup, Sem.run_bind, run_underlying ht, Result.andThen_ok, MapKept.run_getObj_map hb, Sem.run_pure, K.check w _ hlx, h1, hz, h5, Option.map_none, Option.getD_none, Option.isSome_none]
  · have h5 := (mget_at hnd h4).1
    simp only [Instr.lookup, Sem.run_bind, run_underlying ht, Result.andThen_ok, MapKept.run_getObj_map hb, Sem.run_pure, K.check w _ hlx, h1, h5, Option.map_some, Option.getD_some, Option.isSome_some]

theorem frm_setBlock (w : World) (b : Nat) (o : Obj) : Frm [b] w (setBlock w b o) :=
  ⟨rfl, rfl, rfl, by simp [setBlock], fun k hk hn => by
    simp at hn
    simp only [setBlock, Array.getElem?_setIfInBounds]
    rw [if_neg (fun e => hn e.symm)], Nat.le_refl _⟩

theorem MapOf.update (K : Keyed P k) (h : MapOf E ev w b m) (ht : P.underlying t = some (.map k e)) (x : κ) (hx : E.ok x) (y : ν) :
    ∃ w', (Instr.mapUpdate t (.map (some b)) (E.ek x) (ev y)).run P w = .ok () w' ∧ Frm [b] w w' ∧ MapOf E ev w' b (mput m x y) := by
  have hnd := h.nodup
  obtain ⟨⟨es, clock, hb, hs, he⟩, hok⟩ := h
  have hbl : b < w.heap.size := (Array.getElem?_eq_some_iff.1 hb).1
  obtain ⟨lx, hlx⟩ := E.key x hx
  have hok' : ∀ p ∈ mput m x y, E.ok p.1 := fun p hp => by
    rcases mput_keys m x y p hp with h | rfl
    · exact hok p h
    · exact hx
  have hself : ∀ o, (setBlock w b o).heap[b]? = some o := fun o => by simp [setBlock, hbl]
  rcases MapOf.find (w := w) K hs he hok hnd x hx with ⟨h1, h2, h3⟩ | ⟨j, e0, y0, h1, h2, h3, h4⟩
  · refine ⟨setBlock w b (.map (es.push ⟨E.ek x, ev y, clock⟩) (clock + 1)), ?_, frm_setBlock _ _ _, ⟨_, _, hself _, stamped_push hs h2, ?_⟩, hok'⟩
    · simp [Instr.mapUpdate, run_underlying ht, MapKept.run_getObj_map hb, K.check w false hlx, h1, MapKept.run_setObj_map _ hb, Result.andThen, setBlock]
    · rw [(mput_new h3).2.1]
      simp [he]
  · have hj : es[j]? = some e0 := by simpa using h2
    refine ⟨setBlock w b (.map (es.modify j (fun e' => { e' with key := E.ek x, val := ev y })) clock), ?_, frm_setBlock _ _ _, ⟨_, _, hself _, ?_, ?_⟩, hok'⟩
    · simp [Instr.mapUpdate, run_underlying ht, MapKept.run_getObj_map hb, K.check w false hlx, h1, hj, h3, K.stays w hlx, MapKept.run_setObj_map _ hb, Result.andThen, setBlock]
    · exact stamped_modify hs _ _ (fun _ _ => rfl) (fun e' _ he' => by rw [hj] at he'; cases he'; exact h3.symm)
    · rw [(mget_at hnd h4).2.1, Array.toList_modify, ChangeMaps.modify_eq_set _ _ _ _ h2, List.map_set, he, List.map_set]

theorem MapOf.delete (K : Keyed P k) (h : MapOf E ev w b m) (ht : P.underlying t = some (.map k e)) (x : κ) (hx : E.ok x) (ty : TypeId) :
    ∃ w', (Builtin.delete_ #[t, k] ty #[.map (some b), E.ek x]).run P w = .ok (.tuple #[]) w' ∧ Frm [b] w w' ∧ MapOf E ev w' b (mdel m x) := by
  have hnd := h.nodup
  obtain ⟨⟨es, clock, hb, hs, he⟩, hok⟩ := h
  have hbl : b < w.heap.size := (Array.getElem?_eq_some_iff.1 hb).1
  obtain ⟨lx, hlx⟩ := E.key x hx
  have hok' : ∀ p ∈ mdel m x, E.ok p.1 := fun p hp => hok p (mdel_sub m x p hp)
  have hself : ∀ o, (setBlock w b o).heap[b]? = some o := fun o => by simp [setBlock, hbl]
  rcases MapOf.find (w := w) K hs he hok hnd x hx with ⟨h1, h2, h3⟩ | ⟨j, e0, y0, h1, h2, h3, h4⟩
  · refine ⟨setBlock w b (.map es clock), ?_, frm_setBlock _ _ _, ⟨es, clock, hself _, hs, ?_⟩, hok'⟩
    · simp [Builtin.delete_, run_underlying ht, MapKept.run_getObj_map hb, K.check w _ hlx, h1, MapKept.run_setObj_map _ hb, Result.andThen, setBlock]
    · rw [(mput_new h3).2.2]; exact he
  · have hjs : j < es.size := by have := (List.getElem?_eq_some_iff.1 h2).1; simpa using this
    have hsub : (es.eraseIdxIfInBounds j).toList = es.toList.eraseIdx j := by
      unfold Array.eraseIdxIfInBounds
      rw [dif_pos hjs]
      simp
    refine ⟨setBlock w b (.map (es.eraseIdxIfInBounds j) clock), ?_, frm_setBlock _ _ _, ⟨_, _, hself _, stamped_erase hs j, ?_⟩, hok'⟩
    · simp [Builtin.delete_, run_underlying ht, MapKept.run_getObj_map hb, K.check w _ hlx, h1, MapKept.run_setObj_map _ hb, Result.andThen, setBlock]
    · rw [(mget_at hnd h4).2.2, hsub, ChangeMaps.map_eraseIdx, he, ChangeMaps.map_eraseIdx]

theorem MapOf.len (h : MapOf E ev w b m) (ht : P.underlying t = some (.map k e)) (ty : TypeId) : (Builtin.len_ #[t] ty #[.map (some b)]).run P w = .ok (.int .i64 (m.length : Int)) w := by
  obtain ⟨⟨es, clock, hb, hs, he⟩, hok⟩ := h
  have hlen : es.size = m.length := by simpa using congrArg List.length he
  simp [Builtin.len_, run_underlying ht, MapKept.run_getObj_map hb, hlen, goInt]

theorem MapOf.keep {w' : World} (h : MapOf E ev w b m) (hb : w'.heap[b]? = w.heap[b]?) : MapOf E ev w' b m := by
  obtain ⟨⟨es, clock, h1, h2⟩, hok⟩ := h
  exact ⟨⟨es, clock, hb.trans h1, h2⟩, hok⟩
theorem MapOf.lt (h : MapOf E ev w b m) : b < w.heap.size := by
  obtain ⟨⟨es, clock, h1, h2⟩, hok⟩ := h
  exact (Array.getElem?_eq_some_iff.1 h1).1
theorem MapOf.made (E : KeyEnc P k κ) (ev : ν → Value) (w : World) : MapOf E ev (w.alloc (.map #[] 0)) w.heap.size [] :=
  ⟨⟨#[], 0, (MapKept.heap_alloc w _).1, stamped_empty 0, rfl⟩, by simp⟩
end
end
section
set_option linter.unusedVariables false
set_option linter.unusedSimpArgs false
set_option linter.unusedSectionVars false
open Go.RowKit
open Go.Maps (Keyed)

section
variable {c : Ctx} {Q : SExit → Fr → Mem → List Nat → World → Prop} {ids : List Nat} {w : World} {fr : Fr} {mem : Mem} {todo : List Task}
variable {k e t : TypeId} {κ ν : Type} [DecidableEq κ] {E : KeyEnc c.P k κ} {ev' : ν → Value}

theorem n_lookup {o : Oper} {x key : Operand} {cok : Bool} {b : Nat} {kr zr : SV} {z : Value} (m : List (κ × ν)) (kx : κ) (r : SV) (K : Keyed c.P k) (ho : o.op = .lookup t x key cok) (hd : dstOk c o.dst = true) (ht : c.P.underlying t = some (.map k e))
    (hx : ev fr x = some (.raw (.map (some b)))) (hkey : ev fr key = some kr) (hkr : den ids kr = some (E.ek kx)) (hok : E.ok kx) (hz : zeroSV c.P e = some zr) (hzd : den ids zr = some z)
    (hr : den ids r = some (if cok then .tuple #[((mget m kx).map ev').getD z, .bool (mget m kx).isSome] else ((mget m kx).map ev').getD z)) (h : ∀ ids' w, ids <+: ids' → Inv c w ids' mem → MapOf E ev' w b m)
    (hk : satS c Q ⟨putF o.dst r fr, mem, todo⟩ ids) : satN c Q (.op o ⟨fr, mem, todo⟩) ids :=
  n_run hd fun ids' w ρ hp hI hρ => by
    have hx' := hρ x _ hx
    have hk' := hρ key _ hkey
    rw [den_mono hp _ _ hkr] at hk'
    simp only [den, Option.some.injEq] at hx' hk'
    obtain ⟨it, zv, hit, hzero, hdz⟩ := zeroSV_ok (ids := ids') hz
    rw [den_mono hp _ _ hzd] at hdz
    simp at hdz; subst hdz
    have hzr : (zeroValue e).run c.P w = .ok z w := by simp [zeroValue, typeInfo, hit, hzero]
    have hrun := (h ids' w hp hI).lookup K ht kx hok hzr cok
    refine ⟨_, w, r, mem, ids', ?_, den_mono hp _ _ hr, List.prefix_refl _, hI, satS_mono hp hk⟩
    unfold execOp
    simp [ho, ← hx', ← hk', hrun]

/-- A store into a map that belongs to a part. -/
theorem n_mapUpdate {o : Oper} {x key val : Operand} {b i : Nat} {kr vr : SV} {bl : SBlk} {ρ : Res} (ρ' : Res) (m : List (κ × ν)) (kx : κ) (y : ν) (K : Keyed c.P k) (ho : o.op = .mapUpdate t x key val) (hd : dstOk c o.dst = true) (ht : c.P.underlying t = some (.map k e))
    (hx : ev fr x = some (.raw (.map (some b)))) (hkey : ev fr key = some kr) (hkr : den ids kr = some (E.ek kx)) (hok : E.ok kx) (hval : ev fr val = some vr) (hvr : den ids vr = some (ev' y)) (hb : nth mem i = some bl) (hres : resOf bl = some ρ) (hrw : bl.rw = true)
    (hbf : b ∈ ρ.fp) (hfp : ρ'.fp = ρ.fp) (h : ∀ ids' w, ids <+: ids' → Inv c w ids' mem → ρ.R w → MapOf E ev' w b m) (h' : ∀ ids' w w', ids <+: ids' → Inv c w ids' mem → ρ.R w → Frm [b] w w' → MapOf E ev' w' b (mput m kx y) → ρ'.R w')
    (hk : satS c Q ⟨putF o.dst .undef fr, setCells mem i [.res ρ'], todo⟩ ids) : satN c Q (.op o ⟨fr, mem, todo⟩) ids :=
  n_runS hd fun ids' w ρ0 hp hI hρ => by
    have hx' := hρ x _ hx
    have hk' := hρ key _ hkey
    have hv' := hρ val _ hval
    rw [den_mono hp _ _ hkr] at hk'
    rw [den_mono hp _ _ hvr] at hv'
    simp only [den, Option.some.injEq] at hx' hk' hv'
    have hR := hI.res i hb hres
    obtain ⟨w', hrun, hf, hm⟩ := (h ids' w hp hI hR).update K ht kx hok y
    refine ⟨w', setCells mem i [.res ρ'], ids', ?_, List.prefix_refl _, ?_, satS_mono hp hk⟩
    · unfold execOp
      simp [ho, ← hx', ← hk', ← hv', hrun]
    · refine hI.updR i hb hres hrw (hf.mono (fun z hz => by simp at hz; subst hz; exact hbf)) (h' ids' w w' hp hI hR hf hm) (fun z hz => .inl (hfp ▸ hz)) fun z hz => ?_
      have := hI.resLt i hb hres z (hfp ▸ hz)
      have := hf.size; omega
theorem n_delete {o : Oper} {x key : Operand} {b i : Nat} {kr : SV} {bl : SBlk} {ρ : Res} (ρ' : Res) (m : List (κ × ν)) (kx : κ) (K : Keyed c.P k) (ho : o.op = .call { callee := .builtin .delete, args := #[x, key], argTypes := #[t, k] }) (hd : dstOk c o.dst = true) (ht : c.P.underlying t = some (.map k e))
    (hx : ev fr x = some (.raw (.map (some b)))) (hkey : ev fr key = some kr) (hkr : den ids kr = some (E.ek kx)) (hok : E.ok kx) (hb : nth mem i = some bl) (hres : resOf bl = some ρ) (hrw : bl.rw = true)
    (hbf : b ∈ ρ.fp) (hfp : ∀ z ∈ ρ'.fp, z ∈ ρ.fp) (h : ∀ ids' w, ids <+: ids' → Inv c w ids' mem → ρ.R w → MapOf E ev' w b m) (h' : ∀ ids' w w', ids <+: ids' → Inv c w ids' mem → ρ.R w → Frm [b] w w' → MapOf E ev' w' b (mdel m kx) → ρ'.R w')
    (hk : satS c Q ⟨putF o.dst (.tup []) fr, setCells mem i [.res ρ'], todo⟩ ids) : satN c Q (.op o ⟨fr, mem, todo⟩) ids :=
  n_run hd fun ids' w ρ0 hp hI hρ => by
    have hx' := hρ x _ hx
    have hk' := hρ key _ hkey
    rw [den_mono hp _ _ hkr] at hk'
    simp only [den, Option.some.injEq] at hx' hk'
    have hR := hI.res i hb hres
    obtain ⟨w', hrun, hf, hm⟩ := (h ids' w hp hI hR).delete K ht kx hok o.type
    refine ⟨.tuple #[], w', .tup [], setCells mem i [.res ρ'], ids', ?_, rfl, List.prefix_refl _, ?_, satS_mono hp hk⟩
    · unfold execOp
      simp only [ho, resolve, invoke, builtin, Sem.run_bind, Sem.run_pure, Result.andThen_ok, List.map_toArray, List.map_cons, List.map_nil, ← hx', ← hk', hrun]
    · refine hI.updR i hb hres hrw (hf.mono (fun z hz => by simp at hz; subst hz; exact hbf)) (h' ids' w w' hp hI hR hf hm) (fun z hz => .inl (hfp z hz)) fun z hz => ?_
      have := hI.resLt i hb hres z (hfp z hz)
      have := hf.size; omega

/-- A new part: new blocks, and what holds of them. -/
theorem Inv.addR (hI : Inv c w ids mem) {w' : World} (hf : Frm [] w w') (ρ : Res) (ty : TypeId) (rw_ : Bool) (hR : ρ.R w') (hnew : ∀ x ∈ ρ.fp, w.heap.size ≤ x) (hlt : ∀ x ∈ ρ.fp, x < w'.heap.size) : Inv c w' (ids ++ [0]) (mem ++ [⟨ty, [.res ρ], rw_⟩]) := by
  have hI' := hI.same hf
  have hp : ids <+: ids ++ [0] := List.prefix_append _ _
  have hat : ∀ i b, nth (mem ++ [⟨ty, [.res ρ], rw_⟩]) i = some b → (i < ids.length ∧ nth mem i = some b ∧ fpOf (ids ++ [0]) i b = fpOf ids i b) ∨ (i = mem.length ∧ b = ⟨ty, [.res ρ], rw_⟩ ∧ fpOf (ids ++ [0]) i b = ρ.fp) := by
    intro i b h
    rw [nth_append] at h
    split at h
    · rename_i hi
      simp at h; subst h; subst hi
      exact .inr ⟨rfl, rfl, fpOf_res rfl⟩
    · have hil : i < ids.length := by rw [hI.len]; exact nth_lt h
      exact .inl ⟨hil, h, fpOf_ids hp hil⟩
  refine ⟨hI'.frm, by simp [hI.len], ?_, ?_, ?_⟩
  · intro i b h
    rcases hat i b h with ⟨hi, h, _⟩ | ⟨rfl, rfl, _⟩
    · exact (hI'.good i b h).ids hp hi
    · exact ⟨hR, hlt⟩
  · intro i j bi bj h1 h2 hij x hx hxj
    rcases hat i bi h1 with ⟨hi, g1, e1⟩ | ⟨rfl, rfl, e1⟩ <;> rcases hat j bj h2 with ⟨hj, g2, e2⟩ | ⟨rfl, rfl, e2⟩ <;> rw [e1] at hx <;> rw [e2] at hxj
    · exact hI.apart i j bi bj g1 g2 hij x hx hxj
    · have := (hI.good i bi g1).lt x hx; have := hnew x hxj; omega
    · have := (hI.good j bj g2).lt x hxj; have := hnew x hx; omega
    · exact hij rfl
  · intro i b h hr x hx
    rcases hat i b h with ⟨hi, h, e1⟩ | ⟨rfl, rfl, e1⟩ <;> rw [e1] at hx
    · exact hI.own i b h hr x hx
    · exact .inr (Nat.le_trans hI.frm.size (hnew x hx))

/-- make(map[K]V). -/
theorem n_makeMap {o : Oper} (ρ : Nat → Res) (ty : TypeId) (ho : o.op = .makeMap t none) (hd : dstOk c o.dst = true) (hl : mem.length = ids.length) (hfp : ∀ b, (ρ b).fp = [b]) (h : ∀ w b, w.heap[b]? = some (.map #[] 0) → (ρ b).R w)
    (hk : ∀ b, c.w0.heap.size ≤ b → satS c Q ⟨putF o.dst (.raw (.map (some b))) fr, mem ++ [⟨ty, [.res (ρ b)], true⟩], todo⟩ (ids ++ [0])) : satN c Q (.op o ⟨fr, mem, todo⟩) ids :=
  n_run hd fun ids' w ρ0 hp hI hρ => by
    obtain rfl := ext0 hp (by rw [hI.len, hl])
    have hf : Frm [] w (w.alloc (.map #[] 0)) := (Frm.refl [] w).alloc _
    refine ⟨.map (some w.heap.size), w.alloc (.map #[] 0), .raw (.map (some w.heap.size)), _, _, ?_, rfl, List.prefix_append _ _, hI.addR hf (ρ w.heap.size) ty true (h _ _ (MapKept.heap_alloc w _).1) (by rw [hfp]; simp) (by rw [hfp]; simp), hk _ hI.frm.size⟩
    unfold execOp
    simp [ho]
    rfl
/-- New blocks get names ahead of an operation or a call. -/
theorem n_opE {o : Oper} (h : ∀ ids', ids <+: ids' → ids'.length = mem.length → satN c Q (.op o ⟨fr, mem, todo⟩) ids') : satN c Q (.op o ⟨fr, mem, todo⟩) ids :=
  satN_iff.2 fun ids' w a QE hp hI hF => satN_iff.1 (h ids' hp hI.len) ids' w a QE (List.prefix_refl _) hI hF
theorem n_op1 {o : Oper} (hl : mem.length = ids.length + 1) (h : ∀ n, satN c Q (.op o ⟨fr, mem, todo⟩) (ids ++ [n])) : satN c Q (.op o ⟨fr, mem, todo⟩) ids :=
  n_opE fun ids' hp hl' => by
    obtain ⟨n, rfl⟩ := ext1 hp (by rw [hl', hl])
    exact h n
theorem n_op2 {o : Oper} (hl : mem.length = ids.length + 2) (h : ∀ n m, satN c Q (.op o ⟨fr, mem, todo⟩) (ids ++ [n, m])) : satN c Q (.op o ⟨fr, mem, todo⟩) ids :=
  n_opE fun ids' hp hl' => by
    obtain ⟨n, m, rfl⟩ := ext2 hp (by rw [hl', hl])
    exact h n m
theorem n_callE {f : FuncId} {args : List SV} {dst : Option Nat} (h : ∀ ids', ids <+: ids' → ids'.length = mem.length → satN c Q (.call f args dst ⟨fr, mem, todo⟩) ids') : satN c Q (.call f args dst ⟨fr, mem, todo⟩) ids :=
  satN_iff.2 fun ids' w vs hp hI hv => satN_iff.1 (h ids' hp hI.len) ids' w vs (List.prefix_refl _) hI hv
theorem n_call1 {f : FuncId} {args : List SV} {dst : Option Nat} (hl : mem.length = ids.length + 1) (h : ∀ n, satN c Q (.call f args dst ⟨fr, mem, todo⟩) (ids ++ [n])) : satN c Q (.call f args dst ⟨fr, mem, todo⟩) ids :=
  n_callE fun ids' hp hl' => by
    obtain ⟨n, rfl⟩ := ext1 hp (by rw [hl', hl])
    exact h n
theorem n_call2 {f : FuncId} {args : List SV} {dst : Option Nat} (hl : mem.length = ids.length + 2) (h : ∀ n m, satN c Q (.call f args dst ⟨fr, mem, todo⟩) (ids ++ [n, m])) : satN c Q (.call f args dst ⟨fr, mem, todo⟩) ids :=
  n_callE fun ids' hp hl' => by
    obtain ⟨n, m, rfl⟩ := ext2 hp (by rw [hl', hl])
    exact h n m
end

/-! ### Keys -/
/-- Strings. -/
def strEnc (P : Program) (k : TypeId) (hk : P.underlying k = some .string) : KeyEnc P k ByteArray where
  ek s := .string s
  ok s := s.size ≤ maxLen
  key s hs := ⟨.string s.data.toList, by simp [keyOf, hk, mapKey, hs]⟩
  inj x y h := by injection h
/-- Numbers. -/
def intEnc (P : Program) (k : TypeId) (q : IntKind) (hk : P.underlying k = some (.int q)) : KeyEnc P k Int where
  ek n := .int q n
  ok n := (Lit.int q n).wf = true
  key n hn := ⟨_, Go.Maps.keyOf_int_mk hk hn⟩
  inj x y h := by injection h
end
section
set_option linter.unusedVariables false
set_option linter.unusedSimpArgs false
set_option linter.unusedSectionVars false
open Go.RowKit

section
variable {c : Ctx} {Q : SExit → Fr → Mem → List Nat → World → Prop} {ids : List Nat} {w : World} {fr : Fr} {mem : Mem} {todo : List Task}

theorem Inv.updBR (hI : Inv c w ids mem) {w' : World} (i j : Nat) {b b2 : SBlk} {n : Nat} {cs : List SV} {l : List Value} {ρ ρ' : Res} (hij : i ≠ j) (hb : nth mem i = some b) (hn : ids[i]? = some n) (hrw : wrB b = true) (hd : denL ids cs = some l)
    (hb2 : nth mem j = some b2) (hres : resOf b2 = some ρ) (hrw2 : b2.rw = true) (hf : Frm (n :: ρ.fp) w w') (hw : Blk w' n l.toArray b.ty) (hR : ρ'.R w') (hfp : ∀ x ∈ ρ'.fp, x ∈ ρ.fp ∨ w.heap.size ≤ x) (hlt : ∀ x ∈ ρ'.fp, x < w'.heap.size) :
    Inv c w' ids (setNth (setNth mem i { b with cells := cs }) j { b2 with cells := [.res ρ'] }) := by
  obtain ⟨hrw, hr⟩ := wrB_eq hrw
  have hown := hI.own _ _ hb hrw n (by rw [fpOf_cells hr hn]; simp)
  have hr' : resOf { b with cells := cs } = none := resOf_cells hd
  have hr2' : resOf { b2 with cells := [SV.res ρ'] } = some ρ' := rfl
  have key : ∀ k b', nth (setNth (setNth mem i { b with cells := cs }) j { b2 with cells := [.res ρ'] }) k = some b' → (k = j ∧ b' = { b2 with cells := [.res ρ'] }) ∨ (k ≠ j ∧ k = i ∧ b' = { b with cells := cs }) ∨ (k ≠ j ∧ k ≠ i ∧ nth mem k = some b') := by
    intro k b' hk
    rw [nth_setNth] at hk
    split at hk
    · rename_i h1
      rw [if_pos (by rw [setNth_len]; exact nth_lt hb2)] at hk
      exact .inl ⟨h1.symm, by simpa using hk.symm⟩
    · rename_i h1
      rw [nth_setNth] at hk
      split at hk
      · rename_i h2
        rw [if_pos (nth_lt hb)] at hk
        exact .inr (.inl ⟨fun e => h1 e.symm, h2.symm, by simpa using hk.symm⟩)
      · rename_i h2
        exact .inr (.inr ⟨fun e => h1 e.symm, fun e => h2 e.symm, hk⟩)
  refine hI.step hf (by
    intro x hx
    simp at hx
    rcases hx with rfl | hx
    · exact hown
    · exact hI.own j b2 hb2 hrw2 x (by rw [fpOf_res hres]; exact hx)) (by simp [setNth_len]) ?_ ?_
  · intro k b' hk
    rcases key k b' hk with ⟨rfl, rfl⟩ | ⟨_, rfl, rfl⟩ | ⟨h1, h2, h3⟩
    · refine ⟨b2, hb2, rfl, ?_, .inr ⟨hR, hlt⟩⟩
      rw [fpOf_res hr2', fpOf_res hres]
      exact hfp
    · refine ⟨b, hb, rfl, ?_, .inr (.mk hn hd hw)⟩
      rw [fpOf_cells hr' hn, fpOf_cells hr hn]
      exact fun x hx => .inl hx
    · refine ⟨b', h3, rfl, fun x hx => .inl hx, .inl ⟨rfl, fun x hx => ?_⟩⟩
      have e1 := hI.apart k i b' b h3 hb h2 x hx
      have e2 := hI.apart k j b' b2 h3 hb2 h1 x hx
      rw [fpOf_cells hr hn] at e1
      rw [fpOf_res hres] at e2
      simp at e1 ⊢
      exact ⟨e1, e2⟩
  · intro k k' bj bk hj hk hjk x hx hxs hxk
    rcases key k bj hj with ⟨rfl, rfl⟩ | ⟨_, rfl, rfl⟩ | ⟨h1, h2, h3⟩
    · rcases key k' bk hk with ⟨rfl, rfl⟩ | ⟨_, rfl, rfl⟩ | ⟨h1, h2, h3⟩
      · exact hjk rfl
      · rw [fpOf_cells hr' hn] at hxk
        have := (hI.good k' b hb).lt x (by rw [fpOf_cells hr hn]; exact hxk)
        omega
      · have := (hI.good k' bk h3).lt x hxk
        omega
    · rw [fpOf_cells hr' hn] at hx
      have := (hI.good k b hb).lt x (by rw [fpOf_cells hr hn]; exact hx)
      omega
    · have := (hI.good k bj h3).lt x hx
      omega

/-- A call that changes the block i and the part j. -/
theorem n_callBR {f : FuncId} {args : List SV} {vs : List Value} {dst : Option Nat} (i j : Nat) (r : SV) (cs : List SV) {v : Value} {b b2 : SBlk} {n : Nat} {l : List Value} {ρ : Res} (ρ' : Res) (hd : dstOk c dst = true) (hv : denL ids args = some vs) (hr : den ids r = some v)
    (hij : Nat.beq i j = false) (hb : nth mem i = some b) (hn : ids[i]? = some n) (hrw : wrB b = true) (hc : denL ids cs = some l) (hb2 : nth mem j = some b2) (hres : resOf b2 = some ρ) (hrw2 : b2.rw = true)
    (h : ∀ ids' w, ids <+: ids' → Inv c w ids' mem → ρ.R w → Calls c.P f vs.toArray w (fun e w2 => e = .returned v ∧ Frm (n :: ρ.fp) w w2 ∧ Blk w2 n l.toArray b.ty ∧ ρ'.R w2 ∧ (∀ x ∈ ρ'.fp, x ∈ ρ.fp ∨ w.heap.size ≤ x) ∧ ∀ x ∈ ρ'.fp, x < w2.heap.size))
    (hk : satS c Q ⟨putF dst r fr, setCells (setCells mem i cs) j [.res ρ'], todo⟩ ids) : satN c Q (.call f args dst ⟨fr, mem, todo⟩) ids := by
  have hne : i ≠ j := fun e => by subst e; simp at hij
  refine n_call hd hv fun ids' w hp hI => (h ids' w hp hI (hI.res j hb2 hres)).mono ?_
  rintro e w2 ⟨he, hf, hw, hR, hfp, hlt⟩
  refine ⟨r, v, _, ids', he, den_mono hp _ _ hr, List.prefix_refl _, ?_, satS_mono hp hk⟩
  rw [setCells_eq (b := b2) (by rw [nth_setCells_ne hne]; exact hb2), setCells_eq hb]
  exact hI.updBR i j hne hb (by obtain ⟨t, rfl⟩ := hp; rw [List.getElem?_append_left (List.getElem?_eq_some_iff.1 hn).1]; exact hn) hrw (denL_mono hp _ _ hc) hb2 hres hrw2 hf hw hR hfp hlt

/-- A call that leaves a new part; Y: what it leaves open. -/
theorem n_callN {Y : Type} {f : FuncId} {args : List SV} {vs : List Value} {dst : Option Nat} (ρ' : Y → Res) (ty : TypeId) (r : Y → SV) (v : Y → Value) (p : Y → Prop) (hd : dstOk c dst = true) (hl : mem.length = ids.length) (hv : denL ids args = some vs) (hr : ∀ y, den (ids ++ [0]) (r y) = some (v y))
    (h : ∀ w, Inv c w ids mem → Calls c.P f vs.toArray w (fun e w2 => ∃ y, e = .returned (v y) ∧ p y ∧ Frm [] w w2 ∧ (ρ' y).R w2 ∧ (∀ x ∈ (ρ' y).fp, w.heap.size ≤ x) ∧ ∀ x ∈ (ρ' y).fp, x < w2.heap.size))
    (hk : ∀ y, p y → (∀ x ∈ (ρ' y).fp, c.w0.heap.size ≤ x) → satS c Q ⟨putF dst (r y) fr, mem ++ [⟨ty, [.res (ρ' y)], true⟩], todo⟩ (ids ++ [0])) : satN c Q (.call f args dst ⟨fr, mem, todo⟩) ids := by
  refine n_call hd hv fun ids' w hp hI => ?_
  obtain rfl := ext0 hp (by rw [hI.len, hl])
  refine (h w hI).mono ?_
  rintro e w2 ⟨y, he, hpy, hf, hR, hnew, hlt⟩
  exact ⟨r y, v y, _, _, he, hr y, List.prefix_append _ _, hI.addR hf (ρ' y) ty true hR hnew hlt, hk y hpy fun x hx => Nat.le_trans hI.frm.size (hnew x hx)⟩

/-! ### The bytes of a string -/
theorem Frm.bytes (w : World) (e : TypeId) (s : ByteArray) : Frm [] w (Lib.bytesWorld w e s) :=
  ⟨rfl, rfl, rfl, by rw [Lib.bytesWorld_size]; omega, fun k hk _ => Lib.bytesWorld_at_old w e s k hk, by
    unfold Lib.bytesWorld
    first
      | exact Nat.le_refl _
      | exact Nat.le_succ _
      | (split <;> first | exact Nat.le_refl _ | exact Nat.le_succ _)⟩
/-- What a walk reads of them. -/
def BytesAt (w : World) (a : Addr) (s : ByteArray) : Prop := ∀ j, j < s.size → w.cell? (a.add j) = some (.int .u8 (s.data.toList.getD j 0).toNat)
theorem BytesAt.frm {w w' : World} {a : Addr} {s : ByteArray} (h : BytesAt w a s) (hf : Frm [] w w') (ha : a.block < w.heap.size) : BytesAt w' a s := fun j hj => by
  rw [← h j hj]
  simp only [World.cell?, block_add]
  rw [hf.block _ ha (by simp)]
def bytesRes (a : Addr) (s : ByteArray) : Res where
  fp := [a.block]
  R w := BytesAt w a s
  stable := by
    intro w w' hk h j hj
    rw [← h j hj]
    simp only [World.cell?, block_add]
    rw [hk _ (by simp)]
/-- []byte(s). -/
theorem n_bytes {o : Oper} {src dst e : TypeId} {x : Operand} {s : ByteArray} {u : TypeDesc} (ho : o.op = .convert src dst x) (hd : dstOk c o.dst = true) (hl : mem.length = ids.length) (hs : c.P.underlying src = some u) (hds : c.P.underlying dst = some (.slice e)) (he : c.P.underlying e = some (.int .u8))
    (hx : ev fr x = some (.str s))
    (hk : ∀ b cap, c.w0.heap.size ≤ b → satS c Q ⟨putF o.dst (.raw (.slice (some ⟨b, 0, none⟩) s.size cap)) fr, mem ++ [⟨e, [.res (bytesRes ⟨b, 0, none⟩ s)], true⟩], todo⟩ (ids ++ [0])) : satN c Q (.op o ⟨fr, mem, todo⟩) ids :=
  n_run hd fun ids' w ρ0 hp hI hρ => by
    obtain rfl := ext0 hp (by rw [hI.len, hl])
    have hx' := hρ x _ hx
    simp only [den, Option.some.injEq] at hx'
    refine ⟨_, _, .raw (.slice (some ⟨w.heap.size, 0, none⟩) s.size (grownCap w s.size 0 e)), _, _, ?_, rfl, List.prefix_append _ _, hI.addR (Frm.bytes w e s) (bytesRes ⟨w.heap.size, 0, none⟩ s) e true ?_ (by simp [bytesRes]) (by simp [bytesRes, Lib.bytesWorld_size]), hk _ _ hI.frm.size⟩
    · unfold execOp
      simp only [ho, ← hx']
      simp only [Sem.run_bind, Sem.run_pure, Result.andThen_ok, Lib.run_convert_string_bytes w src dst e s hs hds he]
    · intro j hj
      have := Lib.bytesWorld_cell w e s j hj
      unfold Addr.add
      split
      · rename_i h0; subst h0; exact this
      · simpa using this

theorem MapOf.empty {P : Program} {k : TypeId} {κ ν : Type} [DecidableEq κ] (E : KeyEnc P k κ) (ev : ν → Value) {w : World} {b : Nat} (h : w.heap[b]? = some (.map #[] 0)) : MapOf E ev w b [] := ⟨⟨#[], 0, h, MapKept.stamped_empty 0, rfl⟩, by simp⟩
/-! ### Names of blocks at the end -/
theorem ext3 {ids ids' : List Nat} (h : ids <+: ids') (hl : ids'.length = ids.length + 3) : ∃ a b d, ids' = ids ++ [a, b, d] := by
  obtain ⟨r, rfl⟩ := h
  match r, hl with
  | [a, b, d], _ => exact ⟨a, b, d, rfl⟩
  | [], hl => simp at hl
  | [_], hl => simp at hl
  | [_, _], hl => simp at hl
  | _ :: _ :: _ :: _ :: _, hl => simp at hl
theorem ext4 {ids ids' : List Nat} (h : ids <+: ids') (hl : ids'.length = ids.length + 4) : ∃ a b d e, ids' = ids ++ [a, b, d, e] := by
  obtain ⟨r, rfl⟩ := h
  match r, hl with
  | [a, b, d, e], _ => exact ⟨a, b, d, e, rfl⟩
  | [], hl => simp at hl
  | [_], hl => simp at hl
  | [_, _], hl => simp at hl
  | [_, _, _], hl => simp at hl
  | _ :: _ :: _ :: _ :: _ :: _, hl => simp at hl
theorem Inv.new_at (hI : Inv c w ids mem) (i : Nat) {b : SBlk} {n : Nat} (hb : nth mem i = some b) (hn : ids[i]? = some n) (hr : resOf b = none) (hrw : b.rw = true) (hS : n ∉ c.S) : c.w0.heap.size ≤ n :=
  (hI.own i b hb hrw n (by rw [fpOf_cells hr hn]; simp)).resolve_left hS
theorem Inv.ne_at (hI : Inv c w ids mem) (i j : Nat) {b b2 : SBlk} {n m : Nat} (hij : i ≠ j) (hb : nth mem i = some b) (hn : ids[i]? = some n) (hr : resOf b = none) (hb2 : nth mem j = some b2) (hm : ids[j]? = some m) (hr2 : resOf b2 = none) : n ≠ m := fun e => by
  have := hI.apart i j b b2 hb hb2 hij n (by rw [fpOf_cells hr hn]; simp)
  rw [fpOf_cells hr2 hm] at this
  simp [e] at this
theorem Inv.ne_res (hI : Inv c w ids mem) (i j : Nat) {b b2 : SBlk} {n : Nat} {ρ : Res} (hij : i ≠ j) (hb : nth mem i = some b) (hn : ids[i]? = some n) (hr : resOf b = none) (hb2 : nth mem j = some b2) (hr2 : resOf b2 = some ρ) : n ∉ ρ.fp := fun e => by
  have := hI.apart i j b b2 hb hb2 hij n (by rw [fpOf_cells hr hn]; simp)
  rw [fpOf_res hr2] at this
  exact this e
theorem Inv.res_res (hI : Inv c w ids mem) (i j : Nat) {b b2 : SBlk} {ρ σ : Res} (hij : i ≠ j) (hb : nth mem i = some b) (hr : resOf b = some ρ) (hb2 : nth mem j = some b2) (hr2 : resOf b2 = some σ) : ∀ x ∈ ρ.fp, x ∉ σ.fp := fun x hx => by
  have := hI.apart i j b b2 hb hb2 hij x (by rw [fpOf_res hr]; exact hx)
  rwa [fpOf_res hr2] at this
theorem Inv.res_new (hI : Inv c w ids mem) (i : Nat) {b : SBlk} {ρ : Res} (hb : nth mem i = some b) (hr : resOf b = some ρ) (hrw : b.rw = true) (hS : ∀ x ∈ ρ.fp, x ∉ c.S) : ∀ x ∈ ρ.fp, c.w0.heap.size ≤ x := fun x hx =>
  (hI.own i b hb hrw x (by rw [fpOf_res hr]; exact hx)).resolve_left (hS x hx)

/-! ### Two parts as one -/
def Res.both (ρ σ : Res) : Res where
  fp := ρ.fp ++ σ.fp
  R w := ρ.R w ∧ σ.R w ∧ ∀ x ∈ ρ.fp, x ∉ σ.fp
  stable := fun w w' hk h => ⟨ρ.stable w w' (fun k hx => hk k (by simp [hx])) h.1, σ.stable w w' (fun k hx => hk k (by simp [hx])) h.2.1, h.2.2⟩
def Res.none : Res where
  fp := []
  R _ := True
  stable := fun _ _ _ h => h
/-- The part j goes into the part i. -/
theorem Inv.absorb (hI : Inv c w ids mem) (i j : Nat) {b b2 : SBlk} {ρ σ : Res} (hij : i ≠ j) (hb : nth mem i = some b) (hr : resOf b = some ρ) (hb2 : nth mem j = some b2) (hr2 : resOf b2 = some σ) (hrw : b.rw = true) (hrw2 : b2.rw = true) :
    Inv c w ids (setCells (setCells mem i [.res (ρ.both σ)]) j [.res Res.none]) := by
  rw [setCells_eq (b := b2) (by rw [nth_setCells_ne hij]; exact hb2), setCells_eq hb]
  have key : ∀ k b', nth (setNth (setNth mem i { b with cells := [.res (ρ.both σ)] }) j { b2 with cells := [.res Res.none] }) k = some b' → (k = j ∧ b' = { b2 with cells := [.res Res.none] }) ∨ (k ≠ j ∧ k = i ∧ b' = { b with cells := [.res (ρ.both σ)] }) ∨ (k ≠ j ∧ k ≠ i ∧ nth mem k = some b') := by
    intro k b' hk
    rw [nth_setNth] at hk
    split at hk
    · rename_i h1
      rw [if_pos (by rw [setNth_len]; exact nth_lt hb2)] at hk
      exact .inl ⟨h1.symm, by simpa using hk.symm⟩
    · rename_i h1
      rw [nth_setNth] at hk
      split at hk
      · rename_i h2
        rw [if_pos (nth_lt hb)] at hk
        exact .inr (.inl ⟨fun e => h1 e.symm, h2.symm, by simpa using hk.symm⟩)
      · rename_i h2
        exact .inr (.inr ⟨fun e => h1 e.symm, fun e => h2 e.symm, hk⟩)
  have f1 : ∀ i, fpOf ids i { b with cells := [SV.res (ρ.both σ)] } = ρ.fp ++ σ.fp := fun i => by rw [fpOf_res (r := ρ.both σ) rfl]; rfl
  have f2 : ∀ i, fpOf ids i { b2 with cells := [SV.res Res.none] } = [] := fun i => by rw [fpOf_res (r := Res.none) rfl]; rfl
  refine ⟨hI.frm, by simp [setNth_len, hI.len], ?_, ?_, ?_⟩
  · intro k b' hk
    rcases key k b' hk with ⟨rfl, rfl⟩ | ⟨_, rfl, rfl⟩ | ⟨_, _, hk⟩
    · exact ⟨trivial, by intro x hx; exact absurd hx (by simp [Res.none])⟩
    · refine ⟨⟨hI.res k hb hr, hI.res j hb2 hr2, hI.res_res k j hij hb hr hb2 hr2⟩, fun x hx => ?_⟩
      rcases List.mem_append.1 hx with hx | hx
      · exact hI.resLt k hb hr x hx
      · exact hI.resLt j hb2 hr2 x hx
    · exact hI.good k b' hk
  · intro k k' bk bk' hk hk' hkk x hx hx'
    rcases key k bk hk with ⟨rfl, rfl⟩ | ⟨n1, rfl, rfl⟩ | ⟨n1, n2, h3⟩
    · rw [f2] at hx; simp at hx
    · rcases key k' bk' hk' with ⟨rfl, rfl⟩ | ⟨_, rfl, rfl⟩ | ⟨m1, m2, h3'⟩
      · rw [f2] at hx'; simp at hx'
      · exact hkk rfl
      · rw [f1] at hx
        rcases List.mem_append.1 hx with hx | hx
        · exact hI.apart k k' b bk' hb h3' hkk x (by rw [fpOf_res hr]; exact hx) hx'
        · exact hI.apart j k' b2 bk' hb2 h3' (fun e => m1 e.symm) x (by rw [fpOf_res hr2]; exact hx) hx'
    · rcases key k' bk' hk' with ⟨rfl, rfl⟩ | ⟨_, rfl, rfl⟩ | ⟨m1, m2, h3'⟩
      · rw [f2] at hx'; simp at hx'
      · rw [f1] at hx'
        rcases List.mem_append.1 hx' with hx' | hx'
        · exact hI.apart k k' bk b h3 hb hkk x hx (by rw [fpOf_res hr]; exact hx')
        · exact hI.apart k j bk b2 h3 hb2 n1 x hx (by rw [fpOf_res hr2]; exact hx')
      · exact hI.apart k k' bk bk' h3 h3' hkk x hx hx'
  · intro k b' hk hrw' x hx
    rcases key k b' hk with ⟨rfl, rfl⟩ | ⟨_, rfl, rfl⟩ | ⟨_, _, hk⟩
    · rw [f2] at hx; simp at hx
    · rw [f1] at hx
      rcases List.mem_append.1 hx with hx | hx
      · exact hI.own k b hb hrw x (by rw [fpOf_res hr]; exact hx)
      · exact hI.own j b2 hb2 hrw2 x (by rw [fpOf_res hr2]; exact hx)
    · exact hI.own k b' hk hrw' x hx
/-- Memory told otherwise ahead of an operation. -/
theorem n_opI {o : Oper} (mem' : Mem) (hm : ∀ ids' w, ids <+: ids' → Inv c w ids' mem → Inv c w ids' mem') (h : satN c Q (.op o ⟨fr, mem', todo⟩) ids) : satN c Q (.op o ⟨fr, mem, todo⟩) ids :=
  satN_iff.2 fun ids' w a QE hp hI hF => satN_iff.1 h ids' w a QE hp (hm ids' w hp hI) hF
end
end
end Go.Proofs.YtglafgpjgkphkaaGreatDoor
