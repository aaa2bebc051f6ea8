/- x[n:]; append(x[:k], x[k+1:]...): an element less, in its place. -/
import Derived.Test.YtfcbcgjgkleonaaSl
set_option linter.unusedVariables false
set_option linter.unusedSimpArgs false
namespace Go.Proofs.Ytfcbcgjgkleonaa
open Go.RowKit

theorem run_sliceLo {P : Program} {w : World} {t e : TypeId} {a : Addr} {len cap n s : Nat} (hu : P.underlying t = some (.slice e)) (hs : sizeB P e = some s) (hn : n ≤ len) :
    (Instr.sliceAt t (.slice (some a) len cap) (some (.int .i64 (n : Int))) none none).run P w = .ok (.slice (some (if cap = n then a else a.add (n * s))) (len - n) (cap - n)) w := by
  have he : P.elem t = e := by simp [Program.elem, hu]
  have hu' : P.underlying t = some (.slice (P.elem t)) := by rw [he]; exact hu
  rw [run_sliceAt_slice w t _ _ _ _ hu', run_slice_l w t (some a) len cap hu' .i64 (n : Int) (by omega) (by omega), he]
  have hsz : (sizeOf e).run P w = .ok s w := sizeB_run (c := { P, N := 0, os := [], S := [], w0 := w }) (w := w) hs
  rw [hsz]
  simp only [Result.andThen, sliced, Int.toNat_natCast]
  by_cases h : cap = n
  · rw [if_pos h, if_pos h]
  · rw [if_neg h, if_neg h]; rfl
section
variable {c : Ctx} {Q : SExit → Fr → Mem → List Nat → World → Prop} {ids : List Nat} {w : World} {fr : Fr} {mem : Mem} {todo : List Task}
theorem n_sliceLo {o : Oper} {t e : TypeId} {x lo : Operand} {a : Addr} {len cap n s : Nat} (ho : o.op = .slice t x (some lo) none none) (hd : dstOk c o.dst = true) (hu : sliceElem c.P t = some e) (hs : sizeB c.P e = some s) (hx : ev fr x = some (.raw (.slice (some a) len cap))) (hl : ev fr lo = some (.int .i64 (n : Int))) (hn : n ≤ len)
    (hk : satS c Q ⟨putF o.dst (.raw (.slice (some (if cap = n then a else a.add (n * s))) (len - n) (cap - n))) fr, mem, todo⟩ ids) : satN c Q (.op o ⟨fr, mem, todo⟩) ids :=
  n_run hd fun ids' w ρ hp hI hρ => by
    have hx' := hρ x _ hx
    have hl' := hρ lo _ hl
    simp only [den, Option.some.injEq] at hx' hl'
    have hul : c.P.underlying t = some (.slice e) := by
      unfold sliceElem at hu
      split at hu
      · rename_i e' he; simp at hu; subst hu; exact he
      · cases hu
    refine ⟨_, w, .raw (.slice (some (if cap = n then a else a.add (n * s))) (len - n) (cap - n)), mem, ids', ?_, rfl, List.prefix_refl _, hI, satS_mono hp hk⟩
    unfold execOp
    simp [ho, ← hx', ← hl', run_sliceLo hul hs hn]
theorem n_appendCut {o : Oper} {t e te : TypeId} {x y : Operand} {g n cap k size : Nat} {xs xs' : List Value} {it : TypeInfo} (i : Nat)
    (ho : o.op = .call { callee := .builtin .append, args := #[x, y], argTypes := #[t, t] }) (hd : dstOk c o.dst = true) (hu : sliceElem c.P t = some e) (hit : c.P.info? e = some it) (hsz : it.size = size) (hkn : k < n)
    (hx : ev fr x = some (.raw (.slice (some ⟨g, 0, none⟩) k cap))) (hy : ev fr y = some (.raw (.slice (some (if cap = k + 1 then (⟨g, 0, none⟩ : Addr) else (⟨g, 0, none⟩ : Addr).add ((k + 1) * size))) (n - (k + 1)) (cap - (k + 1)))))
    (hb : nth mem i = some ⟨te, [.res (rowRes e size (some ⟨g, 0, none⟩) n cap xs)], true⟩) (h1 : ∀ u ∈ xs, u.oneCell' = true) (hxs : xs.take (k * size) ++ xs.drop ((k + 1) * size) = xs')
    (hk : satS c Q ⟨putF o.dst (.raw (.slice (some ⟨g, 0, none⟩) (k + (n - (k + 1))) cap)) fr, setCells mem i [.res (rowRes e size (some ⟨g, 0, none⟩) (k + (n - (k + 1))) cap xs')], todo⟩ ids) : satN c Q (.op o ⟨fr, mem, todo⟩) ids := by
  subst hxs
  subst hsz
  refine n_run hd fun ids' w ρ hp hI hρ => ?_
  have hx' := hρ x _ hx
  have hy' := hρ y _ hy
  simp only [den, Option.some.injEq] at hx' hy'
  have hul : c.P.underlying t = some (.slice e) := by
    unfold sliceElem at hu
    split at hu
    · rename_i e' he; simp at hu; subst hu; exact he
    · cases hu
  have hown : w.ownsRow 0 e it.size (.slice (some ⟨g, 0, none⟩) n cap) n xs := hI.res i hb rfl
  obtain ⟨hlen, hh⟩ := hown
  rcases hh with ⟨he, _⟩ | ⟨g', cap', cur, he, hbg, hg, hnc, hcm, hcs, htake⟩
  · cases he
  simp only [Value.slice.injEq, Option.some.injEq, Addr.mk.injEq, and_true, true_and] at he
  obtain ⟨rfl, rfl⟩ := he
  have hm1 : (k + 1) * it.size + (n - (k + 1)) * it.size = n * it.size := by rw [← Nat.add_mul]; congr 1; omega
  have hm2 : k * it.size + (n - (k + 1)) * it.size ≤ n * it.size := by rw [← Nat.add_mul]; exact Nat.mul_le_mul_right _ (by omega)
  have hm3 : n * it.size ≤ cap * it.size := Nat.mul_le_mul_right _ hnc
  have hnl : (xs.drop ((k + 1) * it.size)).length = (n - (k + 1)) * it.size := by rw [List.length_drop, hlen]; omega
  have hcl : cur.toList.length = cap * it.size := by simpa using hcs
  have hcell : ∀ j u, xs[j]? = some u → w.cell? ⟨g, j, none⟩ = some u := by
    intro j u hu
    rw [← htake, List.getElem?_take] at hu
    split at hu
    · simp only [World.cell?, hg]; simpa using hu
    · cases hu
  have hnews : ∀ j u, (xs.drop ((k + 1) * it.size))[j]? = some u → w.cell? ((if cap = k + 1 then (⟨g, 0, none⟩ : Addr) else (⟨g, 0, none⟩ : Addr).add ((k + 1) * it.size)).add j) = some u := by
    intro j u hu
    by_cases hc : cap = k + 1
    · have : (xs.drop ((k + 1) * it.size)).length = 0 := by rw [hnl, show n - (k + 1) = 0 by omega, Nat.zero_mul]
      have := List.eq_nil_of_length_eq_zero this
      rw [this] at hu; simp at hu
    · rw [if_neg hc, Go.Proofs.Ytfcbcgjgkleonaa.add_add, add_mk]
      rw [List.getElem?_drop] at hu
      exact hcell _ _ hu
  have hrun := run_append_room (P := c.P) w t o.type e it hul hit g k cap cur hg _ (n - (k + 1)) (cap - (k + 1)) (xs.drop ((k + 1) * it.size)) hnl hnews (fun u hu => h1 u (List.mem_of_mem_drop hu)) (by omega) (by rw [hnl]; have : cur.size = cap * it.size := hcs; omega)
  have htk : cur.toList.take (k * it.size) = xs.take (k * it.size) := by
    rw [← htake, List.take_take, Nat.min_eq_left (by have := Nat.mul_le_mul_right it.size (show k ≤ n by omega); omega)]
  rw [htk] at hrun
  have hlen' : (xs.take (k * it.size) ++ xs.drop ((k + 1) * it.size)).length = (k + (n - (k + 1))) * it.size := by
    rw [List.length_append, hnl, List.length_take, Nat.min_eq_left (by have := Nat.mul_le_mul_right it.size (show k ≤ n by omega); omega), Nat.add_mul]
  refine ⟨.slice (some ⟨g, 0, none⟩) (k + (n - (k + 1))) cap, w.setRow g (xs.take (k * it.size) ++ xs.drop ((k + 1) * it.size) ++ cur.toList.drop (k * it.size + (xs.drop ((k + 1) * it.size)).length)).toArray, .raw (.slice (some ⟨g, 0, none⟩) (k + (n - (k + 1))) cap), setCells mem i [.res (rowRes e it.size (some ⟨g, 0, none⟩) (k + (n - (k + 1))) cap (xs.take (k * it.size) ++ xs.drop ((k + 1) * it.size)))], ids', ?_, rfl, List.prefix_refl _, ?_, satS_mono hp hk⟩
  · unfold execOp
    simp only [ho, resolve, invoke, builtin, Sem.run_bind, Sem.run_pure, Result.andThen_ok, List.map_toArray, List.map_cons, List.map_nil, ← hx', ← hy', hrun]
  · refine hI.updR i hb rfl rfl ?_ ?_ (fun x hx => .inl (by simpa [rowRes] using hx)) (fun x hx => ?_)
    · exact ⟨rfl, rfl, rfl, by simp, fun m _ hm => setRow_other w g m _ (by simpa [rowRes] using hm)⟩
    · refine ⟨hlen', .inr ⟨g, cap, _, rfl, hbg, setRow_heap w g cur _ e _ hg, by omega, hcm, ?_, ?_⟩⟩
      · have h3 : (xs.take (k * it.size)).length = k * it.size := by rw [List.length_take, Nat.min_eq_left (by have := Nat.mul_le_mul_right it.size (show k ≤ n by omega); omega)]
        simp only [List.size_toArray, List.length_append, h3, hnl, List.length_drop (l := cur.toList), hcl]
        omega
      · rw [← hlen']
        exact List.take_left
    · simp [rowRes] at hx
      subst hx
      simp
      exact (Array.getElem?_eq_some_iff.1 hg).1
/-- A fact that memory tells. -/
theorem n_callF {f : FuncId} {args : List SV} {dst : Option Nat} {P : Prop} (hf : ∀ ids' w, ids <+: ids' → Inv c w ids' mem → P) (h : P → satN c Q (.call f args dst ⟨fr, mem, todo⟩) ids) : satN c Q (.call f args dst ⟨fr, mem, todo⟩) ids :=
  satN_iff.2 fun ids' w vs hp hI hv => satN_iff.1 (h (hf ids' w hp hI)) ids' w vs hp hI hv
end
end Go.Proofs.Ytfcbcgjgkleonaa
