/- A slice literal of several elements; a call that leaves new parts opened. -/
import Derived.Test.YtglafgpjgkphkaaGreatDoorBnQ
import Derived.Great.BuildSlice
set_option linter.unusedVariables false
set_option linter.unusedSimpArgs false
namespace Go.Proofs.YtglafgpjgkphkaaGreatDoor
open Go.RowKit

theorem evParts_run {fr : Fr} {ids : List Nat} {ρ : Operand → Value} (hρ : ∀ x r, ev fr x = some r → den ids r = some (ρ x)) : ∀ {ps : List (Nat × Operand)} {rs : List (Nat × SV)}, evParts fr ps = some rs →
    rs.map (·.1) = (ps.map fun (i, x) => (i, ρ x)).map (·.1) ∧ denL ids (rs.map (·.2)) = some ((ps.map fun (i, x) => (i, ρ x)).map (·.2))
  | [], rs, h => by simp [evParts] at h; subst h; exact ⟨rfl, rfl⟩
  | (i, x) :: ps, rs, h => by
    simp only [evParts] at h
    split at h
    · rename_i v hv
      split at h
      · rename_i l hl
        simp at h; subst h
        obtain ⟨h1, h2⟩ := evParts_run hρ hl
        exact ⟨by simp at h1; simp [h1], denL_mk (hρ _ _ hv) h2⟩
      · cases h
    · cases h
theorem denL_rep {ids : List Nat} {zs : List SV} {l : List Value} (h : denL ids zs = some l) : ∀ n, denL ids (List.replicate n zs).flatten = some (List.replicate n l).flatten
  | 0 => rfl
  | n + 1 => by
    simp only [List.replicate_succ, List.flatten_cons]
    exact denL_append h (denL_rep h n)

section
variable {c : Ctx} {Q : SExit → Fr → Mem → List Nat → World → Prop} {ids : List Nat} {w : World} {fr : Fr} {mem : Mem} {todo : List Task}
/-- []T{a, b, ..} -/
theorem n_buildN {o : Oper} {t e : TypeId} {len : Nat} {parts : Array (Nat × Operand)} {z : SV} {rs : List (Nat × SV)} {zs xs : List SV} {n : Nat} (ho : o.op = .buildSlice t len parts) (hd : dstOk c o.dst = true) (hu : sliceElem c.P t = some e) (hz : zeroSV c.P e = some z) (hzs : cells1 z = some zs) (hs : sizeB c.P e = some n)
    (hzl : Nat.beq zs.length n = true) (hn : Nat.ble 1 (len * n) = true) (hn2 : Nat.ble (len * n) 16777216 = true) (hx : evParts fr parts.toList = some rs) (hf : fillEv (fun i => some (i * n, n)) (List.replicate len zs).flatten rs = some xs)
    (h : satS c Q ⟨putF o.dst (.sl mem.length 0 len len) fr, mem ++ [⟨e, xs, true⟩], todo⟩ ids) : satN c Q (.op o ⟨fr, mem, todo⟩) ids := by
  refine n_run hd fun ids' w ρ hp hI hρ => ?_
  obtain ⟨it, zv, hit, hzero, hdz⟩ := zeroSV_ok (ids := ids') hz
  obtain ⟨hdzs, _⟩ := cells1_den hzs hdz
  have hzsz : zv.cells.size = n := by
    have := denL_len hdzs
    have := Nat.eq_of_beq_eq_true hzl
    simp at *; omega
  have hsz : it.size = n := by
    unfold sizeB at hs
    rw [hit] at hs
    simp [forceNat_eq] at hs
    exact hs
  have hul : c.P.underlying t = some (.slice e) := by
    unfold sliceElem at hu
    split at hu
    · rename_i e' he; simp at hu; subst hu; exact he
    · cases hu
  obtain ⟨hp1, hp2⟩ := evParts_run hρ hx
  subst hsz
  obtain ⟨m, hm1, hm2⟩ := fill_ok hp1 hp2 (denL_rep hdzs len) hf
  have hfill : Instr.fill (fun i => some (i * it.size, it.size)) ((Array.range (len * it.size)).map (zv.cells[· % zv.cells.size]!)) (parts.toList.map fun (i, x) => (i, ρ x)) = some m.toArray := by
    have e1 : ((Array.range (len * it.size)).map (zv.cells[· % zv.cells.size]!)) = (List.replicate len zv.cells.toList).flatten.toArray := by
      have := madeCells_flat zv.cells len
      rw [hzsz] at this
      rw [← this]
      show madeCells zv.cells (len * it.size) = _
      simp
    rw [e1]; exact hm2
  have hrun := run_buildSlice (P := c.P) w t e len (parts.map fun (i, x) => (i, ρ x)) m.toArray it zv hul hit hzero (by have := Nat.le_of_ble_eq_true hn2; omega) (by have := Nat.le_of_ble_eq_true hn; omega) (by rw [Array.toList_map]; exact hfill)
  refine ⟨.slice (some ⟨w.heap.size, 0, none⟩) len len, w.alloc (.cells m.toArray e), .sl mem.length 0 len len, mem ++ [⟨e, xs, true⟩], ids' ++ [w.heap.size], ?_, ?_, List.prefix_append _ _, ?_, satS_mono (hp.trans (List.prefix_append _ _)) h⟩
  · unfold execOp
    simp [ho, hrun]
  · simp [den, ← hI.len]
  · refine hI.adds ((Frm.refl [] w).alloc _) [w.heap.size] [⟨e, xs, true⟩] rfl (by simp) (by simp) ?_
    intro i b m' h2 h3
    cases i with
    | zero =>
      simp [nth] at h2 h3
      subst h2; subst h3
      exact ⟨_, denL_mono (List.prefix_append _ _) _ _ hm1, by simpa using Blk.new w m.toArray e⟩
    | succ i => simp [nth] at h2

/-- New parts, opened. -/
theorem Inv.addM {w' : World} {ids2 : List Nat} {mem2 : Mem} (hI : Inv c w ids mem) (hf : Frm [] w w') (hR : (memRes ids2 mem2).R w') (hnew : ∀ x ∈ fpsOf ids2 mem2, w.heap.size ≤ x) (hden : ∀ i b, nth mem2 i = some b → resOf b = none → ∃ l, denL [] b.cells = some l) : Inv c w' (ids ++ ids2) (mem ++ mem2) := by
  obtain ⟨r1, r2, r3⟩ := hR
  have hlen := hI.len
  have hsize := hI.frm.size
  have hL : ∀ i b, i < ids.length → fpOf (ids ++ ids2) i b = fpOf ids i b := fun i b hi => fpOf_ids (List.prefix_append _ _) hi
  have hRt : ∀ i b, ids.length ≤ i → fpOf (ids ++ ids2) i b = fpOf ids2 (i - ids.length) b := fun i b hi => by
    unfold fpOf
    rw [List.getElem?_append_right hi]
  have hcase : ∀ i b, nth (mem ++ mem2) i = some b → (i < ids.length ∧ nth mem i = some b) ∨ (ids.length ≤ i ∧ nth mem2 (i - ids.length) = some b) := fun i b hb => by
    rcases Nat.lt_or_ge i mem.length with h | h
    · rw [nth_app_left h] at hb; exact .inl ⟨by omega, hb⟩
    · rw [nth_app_right h, ← hlen] at hb; exact .inr ⟨by omega, hb⟩
  have hkeep : ∀ i b, nth mem i = some b → Good w' ids i b := fun i b hb => (hI.good i b hb).keep (fun x hx => hf.block x ((hI.good i b hb).lt x hx) (by simp)) hf.size
  refine ⟨hI.frm.then hf (by simp), ?_, ?_, ?_, ?_⟩
  · simp [hlen, r1]
  · intro i b hb
    rcases hcase i b hb with ⟨hi, hb⟩ | ⟨hi, hb⟩
    · exact (hkeep i b hb).ids (List.prefix_append _ _) hi
    · have hg := r2 _ b hb
      cases hr : resOf b with
      | some ρ =>
        have := hg.res hr
        unfold Good; rw [hr]
        exact this
      | none =>
        obtain ⟨n, l, hn, hd, hB⟩ := hg.blk hr
        obtain ⟨l', hl'⟩ := hden _ b hb hr
        have e1 := denL_mono (List.nil_prefix (l := ids2)) _ _ hl'
        rw [hd] at e1; simp at e1; subst e1
        exact .mk (by rw [List.getElem?_append_right hi]; exact hn) (denL_mono List.nil_prefix _ _ hl') hB
  · intro i j bi bj hi hj hij x hx hxj
    rcases hcase i bi hi with ⟨hil, hi⟩ | ⟨hil, hi⟩ <;> rcases hcase j bj hj with ⟨hjl, hj⟩ | ⟨hjl, hj⟩
    · rw [hL i bi hil] at hx
      rw [hL j bj hjl] at hxj
      exact hI.apart i j bi bj hi hj hij x hx hxj
    · rw [hL i bi hil] at hx
      rw [hRt j bj hjl] at hxj
      have := (hI.good i bi hi).lt x hx
      have := hnew x (fpsOf_mem r1 hj x hxj)
      omega
    · rw [hRt i bi hil] at hx
      rw [hL j bj hjl] at hxj
      have := (hI.good j bj hj).lt x hxj
      have := hnew x (fpsOf_mem r1 hi x hx)
      omega
    · rw [hRt i bi hil] at hx
      rw [hRt j bj hjl] at hxj
      exact r3 _ _ bi bj hi hj (by omega) x hx hxj
  · intro i b hb hr x hx
    rcases hcase i b hb with ⟨hi, hb⟩ | ⟨hi, hb⟩
    · rw [hL i b hi] at hx
      exact hI.own i b hb hr x hx
    · rw [hRt i b hi] at hx
      have := hnew x (fpsOf_mem r1 hb x hx)
      right; omega
theorem n_callNM {Y : Type} {f : FuncId} {args : List SV} {vs : List Value} {dst : Option Nat} (ids2 : Y → List Nat) (mem2 : Y → Mem) (r : Y → SV) (v : Y → Value) (p : Y → Prop) (hd : dstOk c dst = true) (hl : mem.length = ids.length) (hv : denL ids args = some vs) (hr : ∀ y, den (ids ++ ids2 y) (r y) = some (v y))
    (hden : ∀ y i b, nth (mem2 y) i = some b → resOf b = none → ∃ l, denL [] b.cells = some l)
    (h : ∀ w, Inv c w ids mem → Calls c.P f vs.toArray w (fun e w2 => ∃ y, e = .returned (v y) ∧ p y ∧ Frm [] w w2 ∧ (memRes (ids2 y) (mem2 y)).R w2 ∧ (∀ x ∈ (memRes (ids2 y) (mem2 y)).fp, w.heap.size ≤ x) ∧ ∀ x ∈ (memRes (ids2 y) (mem2 y)).fp, x < w2.heap.size))
    (hk : ∀ y, p y → (∀ x ∈ (memRes (ids2 y) (mem2 y)).fp, c.w0.heap.size ≤ x) → satS c Q ⟨putF dst (r y) fr, mem ++ mem2 y, todo⟩ (ids ++ ids2 y)) : satN c Q (.call f args dst ⟨fr, mem, todo⟩) ids := by
  refine n_call hd hv fun ids' w hp hI => ?_
  obtain rfl := ext0 hp (by rw [hI.len, hl])
  refine (h w hI).mono ?_
  rintro e w2 ⟨y, he, hpy, hf, hR, hnew, hlt⟩
  exact ⟨r y, v y, _, _, he, hr y, List.prefix_append _ _, hI.addM hf hR hnew (hden y), hk y hpy fun x hx => Nat.le_trans hI.frm.size (hnew x hx)⟩
end
end Go.Proofs.YtglafgpjgkphkaaGreatDoor
