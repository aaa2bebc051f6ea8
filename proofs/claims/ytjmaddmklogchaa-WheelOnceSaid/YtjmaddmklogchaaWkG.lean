/- clear(x[k:]) of a row; a slice's elements behind a row; a[:n] of an array. -/
import Derived.Test.YtjmaddmklogchaaBnZ
import Derived.Test.YtjmaddmklogchaaBnU
set_option linter.unusedVariables false
set_option linter.unusedSimpArgs false
namespace Go.Proofs.Ytjmaddmklogchaa
open Go.RowKit

theorem zc_len (z : Array Value) (n : Nat) : (Builtin.zeroCells z n).toList.length = n * z.size := by simp [Builtin.zeroCells]
theorem zc_one {z : Array Value} (h0 : 0 < z.size) (h1 : ∀ v ∈ z.toList, v.oneCell' = true) (n : Nat) : ∀ v ∈ (Builtin.zeroCells z n).toList, v.oneCell' = true := by
  intro v hv
  simp [Builtin.zeroCells] at hv
  obtain ⟨a, _, rfl⟩ := hv
  have hlt : a % z.size < z.size := Nat.mod_lt _ h0
  rw [getElem!_pos z _ hlt]
  exact h1 _ (by simp)
theorem run_clear_tail {P : Program} {w : World} {t e ty : TypeId} {it : TypeInfo} {z : Value} {size g n cap k : Nat} {xs : List Value} (hu : P.underlying t = some (.slice e)) (hit : P.info? e = some it) (hz : it.zero = some z) (hzs : z.cells.size = size) (hs0 : 0 < size) (h1 : ∀ v ∈ z.cells.toList, v.oneCell' = true) (hkn : k < n)
    (hR : (rowRes e size (some ⟨g, 0, none⟩) n cap xs).R w) :
    ∃ w', (Builtin.clear_ #[t] ty #[.slice (some (if cap = k then (⟨g, 0, none⟩ : Addr) else (⟨g, 0, none⟩ : Addr).add (k * size))) (n - k) (cap - k)]).run P w = .ok (.tuple #[]) w' ∧ Frm [g] w w' ∧ (rowRes e size (some ⟨g, 0, none⟩) k cap (xs.take (k * size))).R w' := by
  have h' : w.ownsRow 0 e size (.slice (some ⟨g, 0, none⟩) n cap) n xs := hR
  obtain ⟨hlen, hh⟩ := h'
  rcases hh with ⟨h2, _⟩ | ⟨g', cap', cur, h2, hb, hg, hnc, hcm, hcs, htake⟩
  · simp at h2
  simp only [Value.slice.injEq, Option.some.injEq, Addr.mk.injEq, and_true, true_and] at h2
  obtain ⟨rfl, rfl⟩ := h2
  rw [if_neg (by omega), add_mk]
  have hcl : cur.toList.length = cap * size := by simpa using hcs
  have e1 : (Builtin.zeroCells z.cells (n - k)).toList.length = (n - k) * size := by rw [zc_len, hzs]
  have hm1 : k * size + (n - k) * size = n * size := by rw [← Nat.add_mul]; congr 1; omega
  have hm3 : n * size ≤ cap * size := Nat.mul_le_mul_right _ hnc
  have hst := run_storeCells_at (P := P) g (k * size) e (Builtin.zeroCells z.cells (n - k)).toList 0 cur w hg (by rw [e1, hcs]; omega) (zc_one (by omega) h1 _)
  have hzv : (zeroValue e).run P w = .ok z w := by simp [zeroValue, typeInfo, hit, hz]
  obtain ⟨m, hm⟩ : ∃ m, n - k = m + 1 := ⟨n - k - 1, by omega⟩
  refine ⟨w.setRow g (cur.toList.take (k * size + 0) ++ (Builtin.zeroCells z.cells (n - k)).toList ++ cur.toList.drop (k * size + 0 + (Builtin.zeroCells z.cells (n - k)).toList.length)).toArray, ?_, ⟨rfl, rfl, rfl, by simp, fun m _ hm => setRow_other w g m _ (by simpa using hm), Nat.le_refl _⟩, ?_⟩
  · rw [hm] at hst ⊢
    simp [Builtin.clear_, run_underlying hu, hzv, hst]
  · have hkl : (xs.take (k * size)).length = k * size := by rw [List.length_take, hlen]; omega
    refine ⟨hkl, .inr ⟨g, cap, _, rfl, hb, setRow_heap w g cur _ e _ hg, by omega, hcm, ?_, ?_⟩⟩
    · simp only [List.size_toArray, List.length_append, List.length_take, List.length_drop, e1, hcl]
      omega
    · simp only [Nat.add_zero]
      rw [List.append_assoc, List.take_append_of_le_length (by rw [List.length_take, hcl]; omega), ← htake, List.take_take, List.take_take]
      congr 1; omega
section
variable {c : Ctx} {Q : SExit → Fr → Mem → List Nat → World → Prop} {ids : List Nat} {w : World} {fr : Fr} {mem : Mem} {todo : List Task}
theorem n_clearTail {o : Oper} {t e te : TypeId} {x : Operand} {g n cap k size : Nat} {xs : List Value} {it : TypeInfo} {z : Value} (i : Nat)
    (ho : o.op = .call { callee := .builtin .clear, args := #[x], argTypes := #[t] }) (hd : dstOk c o.dst = true) (hu : sliceElem c.P t = some e) (hit : c.P.info? e = some it) (hz : it.zero = some z) (hzs : z.cells.size = size) (hs0 : 0 < size) (h1 : ∀ v ∈ z.cells.toList, v.oneCell' = true) (hkn : k < n)
    (hx : ev fr x = some (.raw (.slice (some (if cap = k then (⟨g, 0, none⟩ : Addr) else (⟨g, 0, none⟩ : Addr).add (k * size))) (n - k) (cap - k))))
    (hb : nth mem i = some ⟨te, [.res (rowRes e size (some ⟨g, 0, none⟩) n cap xs)], true⟩)
    (hk : satS c Q ⟨putF o.dst (.tup []) fr, setCells mem i [.res (rowRes e size (some ⟨g, 0, none⟩) k cap (xs.take (k * size)))], todo⟩ ids) : satN c Q (.op o ⟨fr, mem, todo⟩) ids := by
  refine n_run hd fun ids' w ρ hp hI hρ => ?_
  have hx' := hρ x _ hx
  simp only [den, Option.some.injEq] at hx'
  have hul : c.P.underlying t = some (.slice e) := by
    unfold sliceElem at hu
    split at hu
    · rename_i e' he; simp at hu; subst hu; exact he
    · cases hu
  obtain ⟨w', hrun, hf, hR⟩ := run_clear_tail (ty := o.type) hul hit hz hzs hs0 h1 hkn (hI.res i hb rfl)
  refine ⟨_, w', .tup [], setCells mem i [.res (rowRes e size (some ⟨g, 0, none⟩) k cap (xs.take (k * size)))], ids', ?_, rfl, List.prefix_refl _, ?_, satS_mono hp hk⟩
  · unfold execOp
    simp only [ho, resolve, invoke, builtin, Sem.run_bind, Sem.run_pure, Result.andThen_ok, List.map_toArray, List.map_cons, List.map_nil, ← hx', hrun]
  · refine hI.updR i hb rfl rfl (by simpa [rowRes] using hf) hR (fun x hx => .inl (by simpa [rowRes] using hx)) fun x hx => ?_
    have := hI.resLt i hb rfl x (by simpa [rowRes] using hx)
    exact Nat.lt_of_lt_of_le this hf.size
theorem n_sliceArr {o : Oper} {t e : TypeId} {x hi : Operand} {g len n s : Nat} (ho : o.op = .slice t x none (some hi) none) (hd : dstOk c o.dst = true) (hu : arrLen c.P t = some (len, e)) (hs : sizeB c.P e = some s) (hx : ev fr x = some (.raw (.pointer (some ⟨g, 0, none⟩)))) (hh : ev fr hi = some (.int .i64 (n : Int))) (hn : n ≤ len)
    (hk : satS c Q ⟨putF o.dst (.raw (.slice (some ⟨g, 0, none⟩) n len)) fr, mem, todo⟩ ids) : satN c Q (.op o ⟨fr, mem, todo⟩) ids :=
  n_run hd fun ids' w ρ hp hI hρ => by
    have hx' := hρ x _ hx
    have hl' := hρ hi _ hh
    simp only [den, Option.some.injEq] at hx' hl'
    have hul : c.P.underlying t = some (.array len e) := by
      unfold arrLen at hu
      split at hu
      · simp at hu; obtain ⟨rfl, rfl⟩ := hu; assumption
      · cases hu
    have hsz : ∀ w, (sizeOf e).run c.P w = .ok s w := fun w => sizeB_run (c := c) (w := w) hs
    have hrun : (Instr.sliceAt t (.pointer (some ⟨g, 0, none⟩)) none (some (.int .i64 (n : Int))) none).run c.P w = .ok (.slice (some ⟨g, 0, none⟩) n len) w := by
      have hb : (Instr.sliceBounds false len len none (some (.int .i64 (n : Int))) none).run c.P w = .ok (0, n, len) w := by
        simp [Instr.sliceBounds, Instr.sliceBound, asIntOf, hn]
      simp [Instr.sliceAt, run_underlying hul, Instr.sureAddr, hb, hsz, Addr.add]
    refine ⟨_, w, .raw (.slice (some ⟨g, 0, none⟩) n len), mem, ids', ?_, rfl, List.prefix_refl _, hI, satS_mono hp hk⟩
    unfold execOp
    simp [ho, ← hx', ← hl', hrun]
theorem run_append_none3 {P : Program} {w : World} {t ty e : TypeId} {i : TypeInfo} {o : Option Addr} {n cap mc : Nat} {size : Nat} {xs : List Value} (ht : P.underlying t = some (.slice e)) (hi : P.info? e = some i) (hR : (rowRes e size o n cap xs).R w) :
    (Builtin.append_ #[t, t] ty #[.slice o n cap, .slice none 0 mc]).run P w = .ok (.slice o n cap) w := by
  have h' : w.ownsRow 0 e size (.slice o n cap) n xs := hR
  rcases h'.2 with ⟨he, rfl⟩ | ⟨g, cap', cur, he, hb, hg, hnc, _⟩
  · simp only [Value.slice.injEq] at he
    obtain ⟨rfl, _, rfl⟩ := he
    exact run_append_nn (c1 := 0) ht hi
  · simp only [Value.slice.injEq, true_and] at he
    obtain ⟨rfl, rfl⟩ := he
    simp [Builtin.append_, run_underlying ht, sizeOf, typeInfo, hi, Builtin.lenOf, Builtin.firstCells, storeCells, hnc]
/-- append(x, y...), y's cells read somewhere in memory. -/
theorem n_appendR {o : Oper} {t e te : TypeId} {x y : Operand} {ox oa : Option Addr} {n cap m mc size bytes : Nat} {xs nv xs' : List Value} {it : TypeInfo} {z : Value} (i : Nat)
    (ho : o.op = .call { callee := .builtin .append, args := #[x, y], argTypes := #[t, t] }) (hd : dstOk c o.dst = true) (hu : sliceElem c.P t = some e) (hit : c.P.info? e = some it) (hz : it.zero = some z) (hsz : it.size = size) (hby : it.bytes = bytes) (hzs : z.cells.size = size) (hs0 : 0 < size)
    (hx : ev fr x = some (.raw (.slice ox n cap))) (hy : ev fr y = some (.raw (.slice oa m mc))) (hb : nth mem i = some ⟨te, [.res (rowRes e size ox n cap xs)], true⟩) (hlen : nv.length = m * size) (hcell : ∀ ids' w, ids <+: ids' → Inv c w ids' mem → (readRes oa nv).R w) (h1 : ∀ u ∈ nv, u.oneCell' = true)
    (h63 : n + m ≤ 9223372036854775807) (hbytes : (n + m) * bytes ≤ 140737488355328) (hxs : xs ++ nv = xs')
    (hk : ∀ r : Option Addr × Nat, satS c Q ⟨putF o.dst (.raw (.slice r.1 (n + m) r.2)) fr, setCells mem i [.res (rowRes e size r.1 (n + m) r.2 xs')], todo⟩ ids) : satN c Q (.op o ⟨fr, mem, todo⟩) ids := by
  subst hxs
  refine n_run hd fun ids' w ρ hp hI hρ => ?_
  have hx' := hρ x _ hx
  have hy' := hρ y _ hy
  simp only [den, Option.some.injEq] at hx' hy'
  have hown : w.ownsRow 0 e size (.slice ox n cap) n xs := hI.res i hb rfl
  have hul : c.P.underlying t = some (.slice e) := by
    unfold sliceElem at hu
    split at hu
    · rename_i e' he; simp at hu; subst hu; exact he
    · cases hu
  have hrd := hcell ids' w hp hI
  by_cases hm0 : m = 0 ∧ oa = none
  · obtain ⟨rfl, rfl⟩ := hm0
    have hnv : nv = [] := List.eq_nil_of_length_eq_zero (by simpa using hlen)
    subst hnv
    have hrun := run_append_none3 (ty := o.type) (mc := mc) hul hit (hI.res i hb rfl)
    refine ⟨_, w, .raw (.slice ox (n + 0) cap), setCells mem i [.res (rowRes e size ox (n + 0) cap (xs ++ []))], ids', ?_, rfl, List.prefix_refl _, ?_, satS_mono hp (hk (ox, cap))⟩
    · unfold execOp
      simp only [ho, resolve, invoke, builtin, Sem.run_bind, Sem.run_pure, Result.andThen_ok, List.map_toArray, List.map_cons, List.map_nil, ← hx', ← hy', hrun]
      rfl
    · refine hI.updR (w' := w) i hb rfl rfl ((Frm.refl [] w).mono (by simp)) (by rw [List.append_nil]; exact hI.res i hb rfl) (fun x hx => .inl hx) (fun x hx => hI.resLt i hb rfl x hx)
  · obtain ⟨a, rfl⟩ : ∃ a, oa = some a := by
      cases oa with
      | some a => exact ⟨a, rfl⟩
      | none =>
        exfalso
        have hm : 0 < m := by have : m ≠ 0 := fun h => hm0 ⟨h, rfl⟩; omega
        have hl : 0 < nv.length := by rw [hlen]; exact Nat.mul_pos hm hs0
        obtain ⟨a, ha, _⟩ := hrd 0 nv[0] (List.getElem?_eq_getElem hl)
        cases ha
    have hnews : ∀ k u, nv[k]? = some u → w.cell? (a.add k) = some u := fun k u hu => by
      obtain ⟨a', h, h'⟩ := hrd k u hu
      simp at h; subst h; exact h'
    obtain ⟨v', w', hrun, hown', hg, hnil', hbl⟩ := run_append_own_at (P := c.P) w 0 t o.type e it z size bytes hul hit hz hsz hby hzs hs0 (.slice ox n cap) n xs hown a m mc nv hlen hnews h1 (by unfold maxLen; omega) hbytes (Nat.zero_le _)
    have hform : ∃ r : Option Addr × Nat, v' = .slice r.1 (n + m) r.2 := by
      rcases hown'.2 with ⟨e0, h0⟩ | ⟨g, cap', cur, e1, _⟩
      · exact ⟨(none, 0), by rw [e0, h0]⟩
      · exact ⟨(some ⟨g, 0, none⟩, cap'), e1⟩
    obtain ⟨⟨og, cap'⟩, rfl⟩ := hform
    dsimp only at hrun hown' hbl
    have hR' : (rowRes e size og (n + m) cap' (xs ++ nv)).R w' := hown'
    have hgl : ∀ x ∈ (rowRes e size og (n + m) cap' (xs ++ nv)).fp, x < w'.heap.size := by
      intro x hx
      cases og with
      | none => simp [rowRes] at hx
      | some g =>
        simp [rowRes] at hx
        subst hx
        exact (hown'.lt _ rfl).2
    refine ⟨_, w', .raw (.slice og (n + m) cap'), setCells mem i [.res (rowRes e size og (n + m) cap' (xs ++ nv))], ids', ?_, rfl, List.prefix_refl _, ?_, satS_mono hp (hk (og, cap'))⟩
    · unfold execOp
      simp only [ho, resolve, invoke, builtin, Sem.run_bind, Sem.run_pure, Result.andThen_ok, List.map_toArray, List.map_cons, List.map_nil, ← hx', ← hy', hrun]
    · refine hI.updR i hb rfl rfl ?_ hR' ?_ hgl
      · refine ⟨hg.os, hg.tape, hg.output, hg.size, fun k hk hkn => hg.block k hk ?_, run_drawn _ _ hrun⟩
        cases ox with
        | none => simp [Value.ownBlock]
        | some b => simp [rowRes, Value.ownBlock] at hkn ⊢; exact hkn
      · intro x hx
        cases og with
        | none => simp [rowRes] at hx
        | some g =>
          simp [rowRes] at hx
          subst hx
          rcases hbl with h | h
          · cases ox with
            | none => simp [Value.ownBlock] at h
            | some b => simp [Value.ownBlock] at h; simp [rowRes, h]
          · simp [Value.ownBlock] at h; omega
end
end Go.Proofs.Ytjmaddmklogchaa
