/- x[:n]; append(nil, l...): a copy. x[n:]; append(x[:k], x[k+1:]...): an element less, in its place. -/
import Derived.Test.YtglafgpjgkphkaaGreatDoorBnU
import Derived.Test.YtglafgpjgkphkaaGreatDoorGath
import Derived.Laws.Slices
namespace Go.Proofs.YtglafgpjgkphkaaGreatDoor
section
set_option linter.unusedVariables false
set_option linter.unusedSimpArgs false
open Go.RowKit

theorem run_sliceHi {P : Program} {w : World} {t e : TypeId} {oa : Option Addr} {len cap n s : Nat} (hu : P.underlying t = some (.slice e)) (hs : sizeB P e = some s) (hn : n ≤ cap) :
    (Instr.sliceAt t (.slice oa len cap) none (some (.int .i64 (n : Int))) none).run P w = .ok (.slice oa n cap) w := by
  have he : P.elem t = e := by simp [Program.elem, hu]
  have hu' : P.underlying t = some (.slice (P.elem t)) := by rw [he]; exact hu
  rw [run_sliceAt_slice w t _ _ _ _ hu', run_slice_h w t oa len cap hu' .i64 (n : Int) (by omega) (by omega), he]
  have hsz : (sizeOf e).run P w = .ok s w := sizeB_run (c := { P, N := 0, os := [], S := [], w0 := w }) (w := w) hs
  rw [hsz]
  simp only [Result.andThen, sliced, Int.toNat_natCast, Nat.sub_zero]
  cases oa with
  | none => simp
  | some a =>
    have : a.add (0 * s) = a := by unfold Addr.add; simp
    have h0 : a.add 0 = a := by unfold Addr.add; simp
    simp [this, h0]
section
variable {c : Ctx} {Q : SExit → Fr → Mem → List Nat → World → Prop} {ids : List Nat} {w : World} {fr : Fr} {mem : Mem} {todo : List Task}
theorem n_sliceHi {o : Oper} {t e : TypeId} {x hi : Operand} {oa : Option Addr} {len cap n s : Nat} (ho : o.op = .slice t x none (some hi) none) (hd : dstOk c o.dst = true) (hu : sliceElem c.P t = some e) (hs : sizeB c.P e = some s) (hx : ev fr x = some (.raw (.slice oa len cap))) (hh : ev fr hi = some (.int .i64 (n : Int))) (hn : n ≤ cap)
    (hk : satS c Q ⟨putF o.dst (.raw (.slice oa n cap)) fr, mem, todo⟩ ids) : satN c Q (.op o ⟨fr, mem, todo⟩) ids :=
  n_run hd fun ids' w ρ hp hI hρ => by
    have hx' := hρ x _ hx
    have hh' := hρ hi _ hh
    simp only [den, Option.some.injEq] at hx' hh'
    have hul : c.P.underlying t = some (.slice e) := by
      unfold sliceElem at hu
      split at hu
      · rename_i e' he; simp at hu; subst hu; exact he
      · cases hu
    refine ⟨_, w, .raw (.slice oa n cap), mem, ids', ?_, rfl, List.prefix_refl _, hI, satS_mono hp hk⟩
    unfold execOp
    simp [ho, ← hx', ← hh', run_sliceHi hul hs hn]

theorem run_append_nn {P : Program} {w : World} {t ty e : TypeId} {i : TypeInfo} {c1 c2 : Nat} (ht : P.underlying t = some (.slice e)) (hi : P.info? e = some i) :
    (Builtin.append_ #[t, t] ty #[.slice none 0 0, .slice none 0 c2]).run P w = .ok (.slice none 0 0) w := by
  simp [Builtin.append_, run_underlying ht, sizeOf, typeInfo, hi, Builtin.lenOf, Builtin.firstCells, storeCells]
/-- append(nil, l...) -/
theorem n_appendN {o : Oper} {t e : TypeId} {x y : Operand} {oa : Option Addr} {m mc size bytes : Nat} {nv : List Value} {it : TypeInfo} {z : Value}
    (ho : o.op = .call { callee := .builtin .append, args := #[x, y], argTypes := #[t, t] }) (hd : dstOk c o.dst = true) (hl : mem.length = ids.length) (hu : sliceElem c.P t = some e) (hit : c.P.info? e = some it) (hz : it.zero = some z) (hsz : it.size = size) (hby : it.bytes = bytes) (hzs : z.cells.size = size) (hs0 : 0 < size)
    (hx : ev fr x = some (.raw (.slice none 0 0))) (hy : ev fr y = some (.raw (.slice oa m mc))) (hlen : nv.length = m * size) (hcell : ∀ ids' w, ids <+: ids' → Inv c w ids' mem → (readRes oa nv).R w) (h1 : ∀ u ∈ nv, u.oneCell' = true)
    (h63 : m ≤ 9223372036854775807) (hbytes : m * bytes ≤ 140737488355328)
    (hk : ∀ y : Option Addr × Nat, m ≤ y.2 → satS c Q ⟨putF o.dst (.raw (.slice y.1 m y.2)) fr, mem ++ [⟨e, [.res (rowRes e size y.1 m y.2 nv)], true⟩], todo⟩ (ids ++ [0])) : satN c Q (.op o ⟨fr, mem, todo⟩) ids := by
  refine n_run hd fun ids' w ρ hp hI hρ => ?_
  obtain rfl := ext0 hp (by rw [hI.len, hl])
  have hx' := hρ x _ hx
  have hy' := hρ y _ hy
  simp only [den, Option.some.injEq] at hx' hy'
  have hul : c.P.underlying t = some (.slice e) := by
    unfold sliceElem at hu
    split at hu
    · rename_i e' he; simp at hu; subst hu; exact he
    · cases hu
  have hc := hcell _ w hp hI
  have hnone : m = 0 → nv = [] := fun h => List.eq_nil_of_length_eq_zero (by rw [hlen, h]; simp)
  have key : ∃ (y : Option Addr × Nat) (w' : World), (Builtin.append_ #[t, t] o.type #[.slice none 0 0, .slice oa m mc]).run c.P w = .ok (.slice y.1 m y.2) w' ∧ Frm [] w w' ∧ (rowRes e size y.1 m y.2 nv).R w' ∧ (∀ x ∈ (rowRes e size y.1 m y.2 nv).fp, w.heap.size ≤ x) ∧ (∀ x ∈ (rowRes e size y.1 m y.2 nv).fp, x < w'.heap.size) ∧ m ≤ y.2 := by
    by_cases hm0 : oa = none
    · subst hm0
      have hnv : nv = [] := by
        cases hn : nv with
        | nil => rfl
        | cons u r =>
          obtain ⟨a, ha, _⟩ := hc 0 u (by rw [hn]; rfl)
          cases ha
      have hm : m = 0 := by
        rw [hnv] at hlen
        rcases Nat.mul_eq_zero.1 hlen.symm with h | h
        · exact h
        · omega
      subst hm; subst hnv
      exact ⟨(none, 0), w, run_append_nn (c1 := 0) hul hit, Frm.refl _ _, rowRes_nil _ _ _, (fun x hx => by cases hx), (fun x hx => by cases hx), by simp⟩
    · obtain ⟨a, rfl⟩ := Option.ne_none_iff_exists'.1 hm0
      have hnews : ∀ k u, nv[k]? = some u → w.cell? (a.add k) = some u := fun k u hu => by
        obtain ⟨a', h, h'⟩ := hc k u hu
        simp at h; subst h; exact h'
      obtain ⟨v', w', hrun, hown', hg, hnil', hbl⟩ := run_append_own_at (P := c.P) w 0 t o.type e it z size bytes hul hit hz hsz hby hzs hs0 (.slice none 0 0) 0 [] (World.ownsRow_nil w 0 e size) a m mc nv hlen hnews h1 (by unfold maxLen; omega) (by simpa using hbytes) (Nat.zero_le _)
      simp only [Nat.zero_add, List.nil_append] at hown'
      have hf : Frm [] w w' := ⟨hg.os, hg.tape, hg.output, hg.size, fun k hk hkn => hg.block k hk (by simp [Value.ownBlock]), run_drawn _ _ hrun⟩
      by_cases hm : m = 0
      · have hv := hnil'.2 ⟨rfl, hm⟩
        subst hv
        subst hm
        rw [hnone rfl] at hown' ⊢
        exact ⟨(none, 0), w', hrun, hf, rowRes_nil _ _ _, (fun x hx => by cases hx), (fun x hx => by cases hx), by simp⟩
      · rcases hown'.2 with ⟨_, h0⟩ | ⟨g, cap', cur, e1, hgb, _, hcap, _⟩
        · omega
        · subst e1
          refine ⟨(some ⟨g, 0, none⟩, cap'), w', hrun, hf, hown', fun x hx => ?_, fun x hx => ?_, hcap⟩
          · simp [rowRes] at hx; subst hx
            rcases hbl with h | h
            · simp [Value.ownBlock] at h
            · simp [Value.ownBlock] at h; omega
          · simp [rowRes] at hx; subst hx
            exact (hown'.lt _ rfl).2
  obtain ⟨y, w', hrun, hf, hR, hnew, hlt, hcap⟩ := key
  refine ⟨_, w', .raw (.slice y.1 m y.2), _, _, ?_, rfl, List.prefix_append _ _, hI.addR hf (rowRes e size y.1 m y.2 nv) e true hR hnew hlt, hk y hcap⟩
  unfold execOp
  simp only [ho, resolve, invoke, builtin, Sem.run_bind, Sem.run_pure, Result.andThen_ok, List.map_toArray, List.map_cons, List.map_nil, ← hx', ← hy', hrun]
/-- A fact that memory tells. -/
theorem n_opF {o : Oper} {P : Prop} (hf : ∀ ids' w, ids <+: ids' → Inv c w ids' mem → P) (h : P → satN c Q (.op o ⟨fr, mem, todo⟩) ids) : satN c Q (.op o ⟨fr, mem, todo⟩) ids :=
  satN_iff.2 fun ids' w a QE hp hI hF => satN_iff.1 (h (hf ids' w hp hI)) ids' w a QE hp hI hF
theorem row_cap {e : TypeId} {size n cap : Nat} {o : Option Addr} {xs : List Value} {w : World} (h : (rowRes e size o n cap xs).R w) (hn : 0 < n) : n ≤ cap := by
  rcases h.2 with ⟨_, h0⟩ | ⟨_, _, _, e1, _, _, h2, _⟩
  · omega
  · simp only [Value.slice.injEq] at e1
    obtain ⟨_, _, rfl⟩ := e1
    exact h2
theorem rd_pre {o : Option Addr} {xs ys : List Value} {w : World} (h : (readRes o (xs ++ ys)).R w) : (readRes o xs).R w := fun j u hu => h j u (by rw [List.getElem?_append_left (List.getElem?_eq_some_iff.1 hu).1]; exact hu)
end
end
section
set_option linter.unusedVariables false
set_option linter.unusedSimpArgs false
open Go.RowKit

theorem run_sliceLo {P : Program} {w : World} {t e : TypeId} {a : Addr} {len cap n s : Nat} (hu : P.underlying t = some (.slice e)) (hs : sizeB P e = some s) (hn : n ≤ len) :
    (Instr.sliceAt t (.slice (some a) len cap) (some (.int .i64 (n : Int))) none none).run P w = .ok (.slice (some (if cap = n then a else a.add (n * s))) (len - n) (cap - n)) w := by
  have he : P.elem t = e := by simp [Program.elem, hu]
  have hu' : P.underlying t = some (.slice (P.elem t)) := by rw [he]; exact hu
  rw [run_sliceAt_slice w t _ _ _ _ hu', run_slice_l w t (some a) len cap hu' .i64 (n : Int) (by omega) (by omega), he]
  have hsz : (sizeOf e).run P w = .ok s w := sizeB_run (c := { P, N := 0, os := [], S := [], w0 := w }) (w := w) hs
  rw [hsz]
  simp only [Result.andThen, sliced, Int.toNat_natCast]
  by_cases h : cap = n
  · rw [if_pos h, if_pos h]
  · rw [if_neg h, if_neg h]; rfl
section
variable {c : Ctx} {Q : SExit → Fr → Mem → List Nat → World → Prop} {ids : List Nat} {w : World} {fr : Fr} {mem : Mem} {todo : List Task}
theorem n_sliceLo {o : Oper} {t e : TypeId} {x lo : Operand} {a : Addr} {len cap n s : Nat} (ho : o.op = .slice t x (some lo) none none) (hd : dstOk c o.dst = true) (hu : sliceElem c.P t = some e) (hs : sizeB c.P e = some s) (hx : ev fr x = some (.raw (.slice (some a) len cap))) (hl : ev fr lo = some (.int .i64 (n : Int))) (hn : n ≤ len)
    (hk : satS c Q ⟨putF o.dst (.raw (.slice (some (if cap = n then a else a.add (n * s))) (len - n) (cap - n))) fr, mem, todo⟩ ids) : satN c Q (.op o ⟨fr, mem, todo⟩) ids :=
  n_run hd fun ids' w ρ hp hI hρ => by
    have hx' := hρ x _ hx
    have hl' := hρ lo _ hl
    simp only [den, Option.some.injEq] at hx' hl'
    have hul : c.P.underlying t = some (.slice e) := by
      unfold sliceElem at hu
      split at hu
      · rename_i e' he; simp at hu; subst hu; exact he
      · cases hu
    refine ⟨_, w, .raw (.slice (some (if cap = n then a else a.add (n * s))) (len - n) (cap - n)), mem, ids', ?_, rfl, List.prefix_refl _, hI, satS_mono hp hk⟩
    unfold execOp
    simp [ho, ← hx', ← hl', run_sliceLo hul hs hn]
theorem n_appendCut {o : Oper} {t e te : TypeId} {x y : Operand} {g n cap k size : Nat} {xs xs' : List Value} {it : TypeInfo} (i : Nat)
    (ho : o.op = .call { callee := .builtin .append, args := #[x, y], argTypes := #[t, t] }) (hd : dstOk c o.dst = true) (hu : sliceElem c.P t = some e) (hit : c.P.info? e = some it) (hsz : it.size = size) (hkn : k < n)
    (hx : ev fr x = some (.raw (.slice (some ⟨g, 0, none⟩) k cap))) (hy : ev fr y = some (.raw (.slice (some (if cap = k + 1 then (⟨g, 0, none⟩ : Addr) else (⟨g, 0, none⟩ : Addr).add ((k + 1) * size))) (n - (k + 1)) (cap - (k + 1)))))
    (hb : nth mem i = some ⟨te, [.res (rowRes e size (some ⟨g, 0, none⟩) n cap xs)], true⟩) (h1 : ∀ u ∈ xs, u.oneCell' = true) (hxs : xs.take (k * size) ++ xs.drop ((k + 1) * size) = xs')
    (hk : satS c Q ⟨putF o.dst (.raw (.slice (some ⟨g, 0, none⟩) (k + (n - (k + 1))) cap)) fr, setCells mem i [.res (rowRes e size (some ⟨g, 0, none⟩) (k + (n - (k + 1))) cap xs')], todo⟩ ids) : satN c Q (.op o ⟨fr, mem, todo⟩) ids := by
  subst hxs
  subst hsz
  refine n_run hd fun ids' w ρ hp hI hρ => ?_
  have hx' := hρ x _ hx
  have hy' := hρ y _ hy
  simp only [den, Option.some.injEq] at hx' hy'
  have hul : c.P.underlying t = some (.slice e) := by
    unfold sliceElem at hu
    split at hu
    · rename_i e' he; simp at hu; subst hu; exact he
    · cases hu
  have hown : w.ownsRow 0 e it.size (.slice (some ⟨g, 0, none⟩) n cap) n xs := hI.res i hb rfl
  obtain ⟨hlen, hh⟩ := hown
  rcases hh with ⟨he, _⟩ | ⟨g', cap', cur, he, hbg, hg, hnc, hcm, hcs, htake⟩
  · cases he
  simp only [Value.slice.injEq, Option.some.injEq, Addr.mk.injEq, and_true, true_and] at he
  obtain ⟨rfl, rfl⟩ := he
  have hm1 : (k + 1) * it.size + (n - (k + 1)) * it.size = n * it.size := by rw [← Nat.add_mul]; congr 1; omega
  have hm2 : k * it.size + (n - (k + 1)) * it.size ≤ n * it.size := by rw [← Nat.add_mul]; exact Nat.mul_le_mul_right _ (by omega)
  have hm3 : n * it.size ≤ cap * it.size := Nat.mul_le_mul_right _ hnc
  have hnl : (xs.drop ((k + 1) * it.size)).length = (n - (k + 1)) * it.size := by rw [List.length_drop, hlen]; omega
  have hcl : cur.toList.length = cap * it.size := by simpa using hcs
  have hcell : ∀ j u, xs[j]? = some u → w.cell? ⟨g, j, none⟩ = some u := by
    intro j u hu
    rw [← htake, List.getElem?_take] at hu
    split at hu
    · simp only [World.cell?, hg]; simpa using hu
    · cases hu
  have hnews : ∀ j u, (xs.drop ((k + 1) * it.size))[j]? = some u → w.cell? ((if cap = k + 1 then (⟨g, 0, none⟩ : Addr) else (⟨g, 0, none⟩ : Addr).add ((k + 1) * it.size)).add j) = some u := by
    intro j u hu
    by_cases hc : cap = k + 1
    · have : (xs.drop ((k + 1) * it.size)).length = 0 := by rw [hnl, show n - (k + 1) = 0 by omega, Nat.zero_mul]
      have := List.eq_nil_of_length_eq_zero this
      rw [this] at hu; simp at hu
    · rw [if_neg hc, Go.Proofs.YtglafgpjgkphkaaGreatDoor.add_add, add_mk]
      rw [List.getElem?_drop] at hu
      exact hcell _ _ hu
  have hrun := run_append_room (P := c.P) w t o.type e it hul hit g k cap cur hg _ (n - (k + 1)) (cap - (k + 1)) (xs.drop ((k + 1) * it.size)) hnl hnews (fun u hu => h1 u (List.mem_of_mem_drop hu)) (by omega) (by rw [hnl]; have : cur.size = cap * it.size := hcs; omega)
  have htk : cur.toList.take (k * it.size) = xs.take (k * it.size) := by
    rw [← htake, List.take_take, Nat.min_eq_left (by have := Nat.mul_le_mul_right it.size (show k ≤ n by omega); omega)]
  rw [htk] at hrun
  have hlen' : (xs.take (k * it.size) ++ xs.drop ((k + 1) * it.size)).length = (k + (n - (k + 1))) * it.size := by
    rw [List.length_append, hnl, List.length_take, Nat.min_eq_left (by have := Nat.mul_le_mul_right it.size (show k ≤ n by omega); omega), Nat.add_mul]
  refine ⟨.slice (some ⟨g, 0, none⟩) (k + (n - (k + 1))) cap, w.setRow g (xs.take (k * it.size) ++ xs.drop ((k + 1) * it.size) ++ cur.toList.drop (k * it.size + (xs.drop ((k + 1) * it.size)).length)).toArray, .raw (.slice (some ⟨g, 0, none⟩) (k + (n - (k + 1))) cap), setCells mem i [.res (rowRes e it.size (some ⟨g, 0, none⟩) (k + (n - (k + 1))) cap (xs.take (k * it.size) ++ xs.drop ((k + 1) * it.size)))], ids', ?_, rfl, List.prefix_refl _, ?_, satS_mono hp hk⟩
  · unfold execOp
    simp only [ho, resolve, invoke, builtin, Sem.run_bind, Sem.run_pure, Result.andThen_ok, List.map_toArray, List.map_cons, List.map_nil, ← hx', ← hy', hrun]
  · refine hI.updR i hb rfl rfl ?_ ?_ (fun x hx => .inl (by simpa [rowRes] using hx)) (fun x hx => ?_)
    · exact ⟨rfl, rfl, rfl, by simp, fun m _ hm => setRow_other w g m _ (by simpa [rowRes] using hm), Nat.le_refl _⟩
    · refine ⟨hlen', .inr ⟨g, cap, _, rfl, hbg, setRow_heap w g cur _ e _ hg, by omega, hcm, ?_, ?_⟩⟩
      · have h3 : (xs.take (k * it.size)).length = k * it.size := by rw [List.length_take, Nat.min_eq_left (by have := Nat.mul_le_mul_right it.size (show k ≤ n by omega); omega)]
        simp only [List.size_toArray, List.length_append, h3, hnl, List.length_drop (l := cur.toList), hcl]
        omega
      · rw [← hlen']
        exact List.take_left
    · simp [rowRes] at hx
      subst hx
      simp
      exact (Array.getElem?_eq_some_iff.1 hg).1
/-- append(nil, l...), of a list that is not empty. -/
theorem n_appendN1 {o : Oper} {t e : TypeId} {x y : Operand} {oa : Option Addr} {m mc size bytes : Nat} {nv : List Value} {it : TypeInfo} {z : Value}
    (ho : o.op = .call { callee := .builtin .append, args := #[x, y], argTypes := #[t, t] }) (hd : dstOk c o.dst = true) (hl : mem.length = ids.length) (hu : sliceElem c.P t = some e) (hit : c.P.info? e = some it) (hz : it.zero = some z) (hsz : it.size = size) (hby : it.bytes = bytes) (hzs : z.cells.size = size) (hs0 : 0 < size)
    (hx : ev fr x = some (.raw (.slice none 0 0))) (hy : ev fr y = some (.raw (.slice oa m mc))) (hlen : nv.length = m * size) (hcell : ∀ ids' w, ids <+: ids' → Inv c w ids' mem → (readRes oa nv).R w) (h1 : ∀ u ∈ nv, u.oneCell' = true)
    (h63 : m ≤ 9223372036854775807) (hbytes : m * bytes ≤ 140737488355328)
    (hm0 : 0 < m) (hk : ∀ (g cap' : Nat), m ≤ cap' → satS c Q ⟨putF o.dst (.raw (.slice (some ⟨g, 0, none⟩) m cap')) fr, mem ++ [⟨e, [.res (rowRes e size (some ⟨g, 0, none⟩) m cap' nv)], true⟩], todo⟩ (ids ++ [0])) : satN c Q (.op o ⟨fr, mem, todo⟩) ids := by
  refine n_run hd fun ids' w ρ hp hI hρ => ?_
  obtain rfl := ext0 hp (by rw [hI.len, hl])
  have hx' := hρ x _ hx
  have hy' := hρ y _ hy
  simp only [den, Option.some.injEq] at hx' hy'
  have hul : c.P.underlying t = some (.slice e) := by
    unfold sliceElem at hu
    split at hu
    · rename_i e' he; simp at hu; subst hu; exact he
    · cases hu
  have hc := hcell _ w hp hI
  have hnone : m = 0 → nv = [] := fun h => List.eq_nil_of_length_eq_zero (by rw [hlen, h]; simp)
  have key : ∃ (y : Option Addr × Nat) (w' : World), (Builtin.append_ #[t, t] o.type #[.slice none 0 0, .slice oa m mc]).run c.P w = .ok (.slice y.1 m y.2) w' ∧ Frm [] w w' ∧ (rowRes e size y.1 m y.2 nv).R w' ∧ (∀ x ∈ (rowRes e size y.1 m y.2 nv).fp, w.heap.size ≤ x) ∧ (∀ x ∈ (rowRes e size y.1 m y.2 nv).fp, x < w'.heap.size) ∧ m ≤ y.2 := by
    by_cases hm0 : oa = none
    · subst hm0
      have hnv : nv = [] := by
        cases hn : nv with
        | nil => rfl
        | cons u r =>
          obtain ⟨a, ha, _⟩ := hc 0 u (by rw [hn]; rfl)
          cases ha
      have hm : m = 0 := by
        rw [hnv] at hlen
        rcases Nat.mul_eq_zero.1 hlen.symm with h | h
        · exact h
        · omega
      subst hm; subst hnv
      exact ⟨(none, 0), w, run_append_nn (c1 := 0) hul hit, Frm.refl _ _, rowRes_nil _ _ _, (fun x hx => by cases hx), (fun x hx => by cases hx), by simp⟩
    · obtain ⟨a, rfl⟩ := Option.ne_none_iff_exists'.1 hm0
      have hnews : ∀ k u, nv[k]? = some u → w.cell? (a.add k) = some u := fun k u hu => by
        obtain ⟨a', h, h'⟩ := hc k u hu
        simp at h; subst h; exact h'
      obtain ⟨v', w', hrun, hown', hg, hnil', hbl⟩ := run_append_own_at (P := c.P) w 0 t o.type e it z size bytes hul hit hz hsz hby hzs hs0 (.slice none 0 0) 0 [] (World.ownsRow_nil w 0 e size) a m mc nv hlen hnews h1 (by unfold maxLen; omega) (by simpa using hbytes) (Nat.zero_le _)
      simp only [Nat.zero_add, List.nil_append] at hown'
      have hf : Frm [] w w' := ⟨hg.os, hg.tape, hg.output, hg.size, fun k hk hkn => hg.block k hk (by simp [Value.ownBlock]), run_drawn _ _ hrun⟩
      by_cases hm : m = 0
      · have hv := hnil'.2 ⟨rfl, hm⟩
        subst hv
        subst hm
        rw [hnone rfl] at hown' ⊢
        exact ⟨(none, 0), w', hrun, hf, rowRes_nil _ _ _, (fun x hx => by cases hx), (fun x hx => by cases hx), by simp⟩
      · rcases hown'.2 with ⟨_, h0⟩ | ⟨g, cap', cur, e1, hgb, _, hcap, _⟩
        · omega
        · subst e1
          refine ⟨(some ⟨g, 0, none⟩, cap'), w', hrun, hf, hown', fun x hx => ?_, fun x hx => ?_, hcap⟩
          · simp [rowRes] at hx; subst hx
            rcases hbl with h | h
            · simp [Value.ownBlock] at h
            · simp [Value.ownBlock] at h; omega
          · simp [rowRes] at hx; subst hx
            exact (hown'.lt _ rfl).2
  obtain ⟨⟨y1, y2⟩, w', hrun, hf, hR, hnew, hlt, hcap⟩ := key
  obtain ⟨g, rfl⟩ : ∃ g, y1 = some ⟨g, 0, none⟩ := rowRes_some' hR hm0
  refine ⟨_, w', .raw (.slice (some ⟨g, 0, none⟩) m y2), _, _, ?_, rfl, List.prefix_append _ _, hI.addR hf (rowRes e size (some ⟨g, 0, none⟩) m y2 nv) e true hR hnew hlt, hk g y2 hcap⟩
  unfold execOp
  simp only [ho, resolve, invoke, builtin, Sem.run_bind, Sem.run_pure, Result.andThen_ok, List.map_toArray, List.map_cons, List.map_nil, ← hx', ← hy', hrun]
/-- A fact that memory tells. -/
theorem n_callF {f : FuncId} {args : List SV} {dst : Option Nat} {P : Prop} (hf : ∀ ids' w, ids <+: ids' → Inv c w ids' mem → P) (h : P → satN c Q (.call f args dst ⟨fr, mem, todo⟩) ids) : satN c Q (.call f args dst ⟨fr, mem, todo⟩) ids :=
  satN_iff.2 fun ids' w vs hp hI hv => satN_iff.1 (h (hf ids' w hp hI)) ids' w vs hp hI hv
end
end
end Go.Proofs.YtglafgpjgkphkaaGreatDoor
