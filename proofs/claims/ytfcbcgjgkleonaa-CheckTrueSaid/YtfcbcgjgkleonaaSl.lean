/- x[:n]; append(nil, l...): a copy. -/
import Derived.Test.YtfcbcgjgkleonaaBnU
import Derived.Test.YtfcbcgjgkleonaaGath
import Derived.Laws.Slices
set_option linter.unusedVariables false
set_option linter.unusedSimpArgs false
namespace Go.Proofs.Ytfcbcgjgkleonaa
open Go.RowKit

theorem run_sliceHi {P : Program} {w : World} {t e : TypeId} {oa : Option Addr} {len cap n s : Nat} (hu : P.underlying t = some (.slice e)) (hs : sizeB P e = some s) (hn : n ≤ cap) :
    (Instr.sliceAt t (.slice oa len cap) none (some (.int .i64 (n : Int))) none).run P w = .ok (.slice oa n cap) w := by
  have he : P.elem t = e := by simp [Program.elem, hu]
  have hu' : P.underlying t = some (.slice (P.elem t)) := by rw [he]; exact hu
  rw [run_sliceAt_slice w t _ _ _ _ hu', run_slice_h w t oa len cap hu' .i64 (n : Int) (by omega) (by omega), he]
  have hsz : (sizeOf e).run P w = .ok s w := sizeB_run (c := { P, N := 0, os := [], S := [], w0 := w }) (w := w) hs
  rw [hsz]
  simp only [Result.andThen, sliced, Int.toNat_natCast, Nat.sub_zero]
  cases oa with
  | none => simp
  | some a =>
    have : a.add (0 * s) = a := by unfold Addr.add; simp
    have h0 : a.add 0 = a := by unfold Addr.add; simp
    simp [this, h0]
section
variable {c : Ctx} {Q : SExit → Fr → Mem → List Nat → World → Prop} {ids : List Nat} {w : World} {fr : Fr} {mem : Mem} {todo : List Task}
theorem n_sliceHi {o : Oper} {t e : TypeId} {x hi : Operand} {oa : Option Addr} {len cap n s : Nat} (ho : o.op = .slice t x none (some hi) none) (hd : dstOk c o.dst = true) (hu : sliceElem c.P t = some e) (hs : sizeB c.P e = some s) (hx : ev fr x = some (.raw (.slice oa len cap))) (hh : ev fr hi = some (.int .i64 (n : Int))) (hn : n ≤ cap)
    (hk : satS c Q ⟨putF o.dst (.raw (.slice oa n cap)) fr, mem, todo⟩ ids) : satN c Q (.op o ⟨fr, mem, todo⟩) ids :=
  n_run hd fun ids' w ρ hp hI hρ => by
    have hx' := hρ x _ hx
    have hh' := hρ hi _ hh
    simp only [den, Option.some.injEq] at hx' hh'
    have hul : c.P.underlying t = some (.slice e) := by
      unfold sliceElem at hu
      split at hu
      · rename_i e' he; simp at hu; subst hu; exact he
      · cases hu
    refine ⟨_, w, .raw (.slice oa n cap), mem, ids', ?_, rfl, List.prefix_refl _, hI, satS_mono hp hk⟩
    unfold execOp
    simp [ho, ← hx', ← hh', run_sliceHi hul hs hn]

theorem run_append_nn {P : Program} {w : World} {t ty e : TypeId} {i : TypeInfo} {c1 c2 : Nat} (ht : P.underlying t = some (.slice e)) (hi : P.info? e = some i) :
    (Builtin.append_ #[t, t] ty #[.slice none 0 0, .slice none 0 c2]).run P w = .ok (.slice none 0 0) w := by
  simp [Builtin.append_, run_underlying ht, sizeOf, typeInfo, hi, Builtin.lenOf, Builtin.firstCells, storeCells]
/-- append(nil, l...) -/
theorem n_appendN {o : Oper} {t e : TypeId} {x y : Operand} {oa : Option Addr} {m mc size bytes : Nat} {nv : List Value} {it : TypeInfo} {z : Value}
    (ho : o.op = .call { callee := .builtin .append, args := #[x, y], argTypes := #[t, t] }) (hd : dstOk c o.dst = true) (hl : mem.length = ids.length) (hu : sliceElem c.P t = some e) (hit : c.P.info? e = some it) (hz : it.zero = some z) (hsz : it.size = size) (hby : it.bytes = bytes) (hzs : z.cells.size = size) (hs0 : 0 < size)
    (hx : ev fr x = some (.raw (.slice none 0 0))) (hy : ev fr y = some (.raw (.slice oa m mc))) (hlen : nv.length = m * size) (hcell : ∀ ids' w, ids <+: ids' → Inv c w ids' mem → (readRes oa nv).R w) (h1 : ∀ u ∈ nv, u.oneCell' = true)
    (h63 : m ≤ 9223372036854775807) (hbytes : m * bytes ≤ 140737488355328)
    (hk : ∀ y : Option Addr × Nat, m ≤ y.2 → satS c Q ⟨putF o.dst (.raw (.slice y.1 m y.2)) fr, mem ++ [⟨e, [.res (rowRes e size y.1 m y.2 nv)], true⟩], todo⟩ (ids ++ [0])) : satN c Q (.op o ⟨fr, mem, todo⟩) ids := by
  refine n_run hd fun ids' w ρ hp hI hρ => ?_
  obtain rfl := ext0 hp (by rw [hI.len, hl])
  have hx' := hρ x _ hx
  have hy' := hρ y _ hy
  simp only [den, Option.some.injEq] at hx' hy'
  have hul : c.P.underlying t = some (.slice e) := by
    unfold sliceElem at hu
    split at hu
    · rename_i e' he; simp at hu; subst hu; exact he
    · cases hu
  have hc := hcell _ w hp hI
  have hnone : m = 0 → nv = [] := fun h => List.eq_nil_of_length_eq_zero (by rw [hlen, h]; simp)
  have key : ∃ (y : Option Addr × Nat) (w' : World), (Builtin.append_ #[t, t] o.type #[.slice none 0 0, .slice oa m mc]).run c.P w = .ok (.slice y.1 m y.2) w' ∧ Frm [] w w' ∧ (rowRes e size y.1 m y.2 nv).R w' ∧ (∀ x ∈ (rowRes e size y.1 m y.2 nv).fp, w.heap.size ≤ x) ∧ (∀ x ∈ (rowRes e size y.1 m y.2 nv).fp, x < w'.heap.size) ∧ m ≤ y.2 := by
    by_cases hm0 : oa = none
    · subst hm0
      have hnv : nv = [] := by
        cases hn : nv with
        | nil => rfl
        | cons u r =>
          obtain ⟨a, ha, _⟩ := hc 0 u (by rw [hn]; rfl)
          cases ha
      have hm : m = 0 := by
        rw [hnv] at hlen
        rcases Nat.mul_eq_zero.1 hlen.symm with h | h
        · exact h
        · omega
      subst hm; subst hnv
      exact ⟨(none, 0), w, run_append_nn (c1 := 0) hul hit, Frm.refl _ _, rowRes_nil _ _ _, (fun x hx => by cases hx), (fun x hx => by cases hx), by simp⟩
    · obtain ⟨a, rfl⟩ := Option.ne_none_iff_exists'.1 hm0
      have hnews : ∀ k u, nv[k]? = some u → w.cell? (a.add k) = some u := fun k u hu => by
        obtain ⟨a', h, h'⟩ := hc k u hu
        simp at h; subst h; exact h'
      obtain ⟨v', w', hrun, hown', hg, hnil', hbl⟩ := run_append_own_at (P := c.P) w 0 t o.type e it z size bytes hul hit hz hsz hby hzs hs0 (.slice none 0 0) 0 [] (World.ownsRow_nil w 0 e size) a m mc nv hlen hnews h1 (by unfold maxLen; omega) (by simpa using hbytes) (Nat.zero_le _)
      simp only [Nat.zero_add, List.nil_append] at hown'
      have hf : Frm [] w w' := ⟨hg.os, hg.tape, hg.output, hg.size, fun k hk hkn => hg.block k hk (by simp [Value.ownBlock])⟩
      by_cases hm : m = 0
      · have hv := hnil'.2 ⟨rfl, hm⟩
        subst hv
        subst hm
        rw [hnone rfl] at hown' ⊢
        exact ⟨(none, 0), w', hrun, hf, rowRes_nil _ _ _, (fun x hx => by cases hx), (fun x hx => by cases hx), by simp⟩
      · rcases hown'.2 with ⟨_, h0⟩ | ⟨g, cap', cur, e1, hgb, _, hcap, _⟩
        · omega
        · subst e1
          refine ⟨(some ⟨g, 0, none⟩, cap'), w', hrun, hf, hown', fun x hx => ?_, fun x hx => ?_, hcap⟩
          · simp [rowRes] at hx; subst hx
            rcases hbl with h | h
            · simp [Value.ownBlock] at h
            · simp [Value.ownBlock] at h; omega
          · simp [rowRes] at hx; subst hx
            exact (hown'.lt _ rfl).2
  obtain ⟨y, w', hrun, hf, hR, hnew, hlt, hcap⟩ := key
  refine ⟨_, w', .raw (.slice y.1 m y.2), _, _, ?_, rfl, List.prefix_append _ _, hI.addR hf (rowRes e size y.1 m y.2 nv) e true hR hnew hlt, hk y hcap⟩
  unfold execOp
  simp only [ho, resolve, invoke, builtin, Sem.run_bind, Sem.run_pure, Result.andThen_ok, List.map_toArray, List.map_cons, List.map_nil, ← hx', ← hy', hrun]
/-- A fact that memory tells. -/
theorem n_opF {o : Oper} {P : Prop} (hf : ∀ ids' w, ids <+: ids' → Inv c w ids' mem → P) (h : P → satN c Q (.op o ⟨fr, mem, todo⟩) ids) : satN c Q (.op o ⟨fr, mem, todo⟩) ids :=
  satN_iff.2 fun ids' w a QE hp hI hF => satN_iff.1 (h (hf ids' w hp hI)) ids' w a QE hp hI hF
theorem row_cap {e : TypeId} {size n cap : Nat} {o : Option Addr} {xs : List Value} {w : World} (h : (rowRes e size o n cap xs).R w) (hn : 0 < n) : n ≤ cap := by
  rcases h.2 with ⟨_, h0⟩ | ⟨_, _, _, e1, _, _, h2, _⟩
  · omega
  · simp only [Value.slice.injEq] at e1
    obtain ⟨_, _, rfl⟩ := e1
    exact h2
theorem rd_pre {o : Option Addr} {xs ys : List Value} {w : World} (h : (readRes o (xs ++ ys)).R w) : (readRes o xs).R w := fun j u hu => h j u (by rw [List.getElem?_append_left (List.getElem?_eq_some_iff.1 hu).1]; exact hu)
end
end Go.Proofs.Ytfcbcgjgkleonaa
