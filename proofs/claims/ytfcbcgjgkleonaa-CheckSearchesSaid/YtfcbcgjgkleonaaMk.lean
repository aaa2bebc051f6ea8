/- make([]T, n): a block of n like elements; one element written. -/
import Derived.Test.YtfcbcgjgkleonaaPart
import Derived.Laws.OwnMore
set_option linter.unusedVariables false
set_option linter.unusedSimpArgs false
namespace Go.Proofs.Ytfcbcgjgkleonaa
open Go.RowKit

/-- A block known whole, as a part. -/
def cellsRes (b : Nat) (l : List Value) (t : TypeId) : Res where
  fp := [b]
  R w := Blk w b l.toArray t
  stable := fun w w' hk h => (hk b (by simp)).trans h

theorem madeCells_flat (z : Array Value) (n : Nat) : (madeCells z (n * z.size)).toList = (List.replicate n z.toList).flatten := by
  induction n with
  | zero => simp [madeCells]
  | succ n ih =>
    have h1 : (madeCells z ((n + 1) * z.size)).toList = (madeCells z (n * z.size)).toList ++ z.toList := by
      apply List.ext_getElem
      · simp [madeCells, Nat.add_mul]
      · intro i h1 h2
        simp only [madeCells, Array.toList_map, Array.toList_range, List.getElem_map, List.getElem_range]
        simp [madeCells, Nat.add_mul] at h1
        rcases Nat.lt_or_ge i (n * z.size) with h | h
        · rw [List.getElem_append_left (by simpa [madeCells] using h)]
          simp [madeCells]
        · have hlen : (madeCells z (n * z.size)).toList.length = n * z.size := by simp [madeCells]
          rw [List.getElem_append_right (by simpa using h)]
          have hz : i - n * z.size < z.size := by omega
          have hm : i % z.size = i - n * z.size := by
            have e : i = (i - n * z.size) + z.size * n := by rw [Nat.mul_comm z.size n]; omega
            rw [e, Nat.add_mul_mod_self_left, Nat.mod_eq_of_lt hz]
            rw [Nat.mul_comm z.size n]; omega
          have : ∀ (j k : Nat) (_ : j = k) (hk : k < z.size) (hk2 : k < z.toList.length), z[j]! = z.toList[k] := by
            intro j k e hk hk2; subst e; simp [hk]
          exact this _ _ (by rw [hm]; simp) (by simpa using hz) _
    rw [h1, ih, List.replicate_succ']
    simp

section
variable {c : Ctx} {Q : SExit → Fr → Mem → List Nat → World → Prop} {ids : List Nat} {w : World} {fr : Fr} {mem : Mem} {todo : List Task}
theorem n_makeSlice {o : Oper} {t e : TypeId} {x y : Operand} {n bytes : Nat} {it : TypeInfo} {z : Value} (ty : TypeId) (ho : o.op = .makeSlice t x y) (hd : dstOk c o.dst = true) (hl : mem.length = ids.length) (hu : c.P.underlying t = some (.slice e)) (hit : c.P.info? e = some it) (hz : it.zero = some z) (hsz : it.size = z.cells.size) (hby : it.bytes = bytes)
    (hx : ev fr x = some (.int .i64 (n : Int))) (hy : ev fr y = some (.int .i64 (n : Int))) (hn : bytes * n ≤ 281474976710656) (h63 : n ≤ 9223372036854775807)
    (hk : ∀ b, c.w0.heap.size ≤ b → satS c Q ⟨putF o.dst (.raw (.slice (some ⟨b, 0, none⟩) n n)) fr, mem ++ [⟨ty, [.res (cellsRes b (List.replicate n z.cells.toList).flatten e)], true⟩], todo⟩ (ids ++ [0])) : satN c Q (.op o ⟨fr, mem, todo⟩) ids :=
  n_run hd fun ids' w ρ0 hp hI hρ => by
    obtain rfl := ext0 hp (by rw [hI.len, hl])
    have hx' := hρ x _ hx
    have hy' := hρ y _ hy
    simp only [den, Option.some.injEq] at hx' hy'
    have hb : (it.bytes : Int) * (n : Int) ≤ 281474976710656 := by
      rw [hby]
      have h : ((bytes * n : Nat) : Int) ≤ 281474976710656 := by omega
      rwa [Int.natCast_mul] at h
    have hrun := run_make (P := c.P) w t e it z hu hit hz .i64 .i64 (n : Int) (n : Int) (by omega) (Int.le_refl _) hb (by omega)
    simp only [Int.toNat_natCast] at hrun
    have hf : Frm [] w (w.alloc (.cells (madeCells z.cells (n * it.size)) e)) := (Frm.refl [] w).alloc _
    refine ⟨_, _, .raw (.slice (some ⟨w.heap.size, 0, none⟩) n n), _, _, ?_, rfl, List.prefix_append _ _, hI.addR hf (cellsRes w.heap.size (List.replicate n z.cells.toList).flatten e) ty true ?_ (by simp [cellsRes]) (by simp [cellsRes]), hk _ hI.frm.size⟩
    · unfold execOp
      simp [ho, ← hx', ← hy', hrun]
    · show Blk _ _ _ _
      rw [← madeCells_flat, ← hsz]
      exact Blk.new w _ e
end

/-! ### One element written -/
theorem flat_set {α : Type} {f : α → List Value} {size : Nat} (hf : ∀ x, (f x).length = size) : ∀ {L : List α} {i : Nat} {x : α} (_ : i < L.length), (L.flatMap f).take (i * size) ++ f x ++ (L.flatMap f).drop (i * size + size) = (L.set i x).flatMap f
  | [], i, x, h => by simp at h
  | y :: L, 0, x, h => by
    simp only [List.flatMap_cons, Nat.zero_mul, List.take_zero, List.nil_append, Nat.zero_add, List.set_cons_zero]
    rw [List.drop_append, hf, Nat.sub_self, List.drop_zero, List.drop_of_length_le (by rw [hf]; omega)]
    simp
  | y :: L, i + 1, x, h => by
    have ih := flat_set hf (L := L) (i := i) (x := x) (by simpa using h)
    simp only [List.flatMap_cons, List.set_cons_succ]
    rw [← ih, List.take_append, List.drop_append, hf, show (i + 1) * size - size = i * size by rw [Nat.add_mul]; omega, show (i + 1) * size + size - size = i * size + size by rw [Nat.add_mul]; omega,
      List.take_of_length_le (by rw [hf, Nat.add_mul]; omega), List.drop_of_length_le (by rw [hf, Nat.add_mul]; omega)]
    simp
theorem map_set {α : Type} {f : α → Value} {L : List α} {i : Nat} {x : α} (h : i < L.length) : (L.map f).take i ++ [f x] ++ (L.map f).drop (i + 1) = (L.set i x).map f := by
  rw [List.map_set, List.set_eq_take_append_cons_drop, if_pos (by simpa using h)]
  simp
theorem cellsRes_at {b : Nat} {l : List Value} {t : TypeId} {w : World} (h : (cellsRes b l t).R w) {a : Addr} {j : Nat} {u : Value} (hu : l[j]? = some u) (ha : a = (⟨b, 0, none⟩ : Addr).add j) : w.cell? a = some u := by
  subst ha
  have hadd : (⟨b, 0, none⟩ : Addr).add j = ⟨b, j, none⟩ := by unfold Addr.add; split <;> simp_all
  rw [hadd, Blk.cell h]
  simpa using hu
end Go.Proofs.Ytfcbcgjgkleonaa
