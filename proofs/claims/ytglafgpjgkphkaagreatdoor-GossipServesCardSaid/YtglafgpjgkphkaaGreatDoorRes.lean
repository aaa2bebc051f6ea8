/- Parts of memory that are known by what holds of them: calls and operations that change them; slices that grow. -/
import Derived.Test.YtglafgpjgkphkaaGreatDoorMq
import Derived.Maps.AppendAt
import Derived.Great.BuildSlice
set_option linter.unusedVariables false
set_option linter.unusedSimpArgs false
namespace Go.Proofs.YtglafgpjgkphkaaGreatDoor
open Go.RowKit

section
variable {c : Ctx} {Q : SExit → Fr → Mem → List Nat → World → Prop} {ids : List Nat} {w : World} {fr : Fr} {mem : Mem} {todo : List Task}

theorem Inv.res (hI : Inv c w ids mem) (i : Nat) {b : SBlk} {ρ : Res} (hb : nth mem i = some b) (hr : resOf b = some ρ) : ρ.R w := ((hI.good i b hb).res hr).1
theorem Inv.resLt (hI : Inv c w ids mem) (i : Nat) {b : SBlk} {ρ : Res} (hb : nth mem i = some b) (hr : resOf b = some ρ) : ∀ x ∈ ρ.fp, x < w.heap.size := ((hI.good i b hb).res hr).2

/-- One such part is told anew. -/
theorem Inv.updR (hI : Inv c w ids mem) {w' : World} (i : Nat) {b : SBlk} {ρ ρ' : Res} (hb : nth mem i = some b) (hr : resOf b = some ρ) (hrw : b.rw = true) (hf : Frm ρ.fp w w') (hR : ρ'.R w')
    (hfp : ∀ x ∈ ρ'.fp, x ∈ ρ.fp ∨ w.heap.size ≤ x) (hlt : ∀ x ∈ ρ'.fp, x < w'.heap.size) : Inv c w' ids (setCells mem i [.res ρ']) := by
  rw [setCells_eq hb]
  have hat : ∀ j b', nth (setNth mem i { b with cells := [.res ρ'] }) j = some b' → (j = i ∧ b' = { b with cells := [.res ρ'] }) ∨ (j ≠ i ∧ nth mem j = some b') := by
    intro j b' hj
    rw [nth_setNth] at hj
    split at hj
    · rename_i hij
      rw [if_pos (nth_lt hb)] at hj
      exact .inl ⟨hij.symm, by simpa using hj.symm⟩
    · rename_i hij; exact .inr ⟨fun e => hij e.symm, hj⟩
  have hr' : resOf { b with cells := [SV.res ρ'] } = some ρ' := rfl
  refine hI.step hf (fun x hx => hI.own i b hb hrw x (by rw [fpOf_res hr]; exact hx)) (by simp [setNth_len]) ?_ ?_
  · intro j b' hj
    rcases hat j b' hj with ⟨rfl, rfl⟩ | ⟨hij, hj⟩
    · refine ⟨b, hb, rfl, ?_, .inr ⟨hR, hlt⟩⟩
      rw [fpOf_res hr', fpOf_res hr]
      exact hfp
    · refine ⟨b', hj, rfl, fun x hx => .inl hx, .inl ⟨rfl, fun x hx => ?_⟩⟩
      have := hI.apart j i b' b hj hb hij x hx
      rwa [fpOf_res hr] at this
  · intro j k bj bk hj hk hjk x hx hxs hxk
    rcases hat j bj hj with ⟨rfl, rfl⟩ | ⟨hij, hj⟩
    · rcases hat k bk hk with ⟨rfl, rfl⟩ | ⟨hik, hk⟩
      · exact hjk rfl
      · have := (hI.good k bk hk).lt x hxk
        omega
    · have := (hI.good j bj hj).lt x hx
      omega

theorem nth_setCells {cs : List SV} {mem : Mem} {i : Nat} {b : SBlk} (h : nth mem i = some b) : nth (setCells mem i cs) i = some { b with cells := cs } := by
  rw [setCells_eq h, nth_setNth]
  simp [nth_lt h]

/-! ### Operations by what they run to -/
theorem n_run {o : Oper} (hd : dstOk c o.dst = true) (h : ∀ ids' w (ρ : Operand → Value), ids <+: ids' → Inv c w ids' mem → (∀ x r, ev fr x = some r → den ids' r = some (ρ x)) →
    ∃ v w2 r mem2 ids2, (execOp ρ o).run c.P w = .ok (.value v) w2 ∧ den ids2 r = some v ∧ ids' <+: ids2 ∧ Inv c w2 ids2 mem2 ∧ satS c Q ⟨putF o.dst r fr, mem2, todo⟩ ids2) : satN c Q (.op o ⟨fr, mem, todo⟩) ids :=
  satN_iff.2 fun ids' w a QE hp hI hF => by
    obtain ⟨v, w2, r, mem2, ids2, h1, h2, h3, h4, h5⟩ := h ids' w a.eval hp hI (fun x r hx => ev_ok hF hx)
    exact Oper.wp_value h1 ⟨r, v, mem2, ids2, rfl, h2, h3, h4, by dsimp only; rw [putK_eq hd]; exact satS_iff.1 h5⟩
theorem n_runS {o : Oper} (hd : dstOk c o.dst = true) (h : ∀ ids' w (ρ : Operand → Value), ids <+: ids' → Inv c w ids' mem → (∀ x r, ev fr x = some r → den ids' r = some (ρ x)) →
    ∃ w2 mem2 ids2, (execOp ρ o).run c.P w = .ok .skip w2 ∧ ids' <+: ids2 ∧ Inv c w2 ids2 mem2 ∧ satS c Q ⟨putF o.dst .undef fr, mem2, todo⟩ ids2) : satN c Q (.op o ⟨fr, mem, todo⟩) ids :=
  satN_iff.2 fun ids' w a QE hp hI hF => by
    obtain ⟨w2, mem2, ids2, h1, h3, h4, h5⟩ := h ids' w a.eval hp hI (fun x r hx => ev_ok hF hx)
    unfold Go.Oper.wp
    rw [h1]
    exact ⟨.undef, Go.undef, mem2, ids2, rfl, rfl, h3, h4, by dsimp only; rw [putK_eq hd]; exact satS_iff.1 h5⟩

/-- A call that changes one such part; Y: what it leaves open. -/
theorem n_callR {Y : Type} {f : FuncId} {args : List SV} {vs : List Value} {dst : Option Nat} (i : Nat) {b : SBlk} {ρ : Res} (ρ' : Y → Res) (r : Y → SV) (v : Y → Value) (p : Y → Prop) (hd : dstOk c dst = true) (hv : denL ids args = some vs) (hr : ∀ y, den ids (r y) = some (v y))
    (hb : nth mem i = some b) (hres : resOf b = some ρ) (hrw : b.rw = true)
    (h : ∀ ids' w, ids <+: ids' → Inv c w ids' mem → ρ.R w → Calls c.P f vs.toArray w (fun e w2 => ∃ y, e = .returned (v y) ∧ p y ∧ Frm ρ.fp w w2 ∧ (ρ' y).R w2 ∧ (∀ x ∈ (ρ' y).fp, x ∈ ρ.fp ∨ w.heap.size ≤ x) ∧ ∀ x ∈ (ρ' y).fp, x < w2.heap.size))
    (hk : ∀ y, p y → satS c Q ⟨putF dst (r y) fr, setCells mem i [.res (ρ' y)], todo⟩ ids) : satN c Q (.call f args dst ⟨fr, mem, todo⟩) ids := by
  refine n_call hd hv fun ids' w hp hI => (h ids' w hp hI (hI.res i hb hres)).mono ?_
  rintro e w2 ⟨y, he, hpy, hf, hR, hfp, hlt⟩
  exact ⟨r y, v y, _, ids', he, den_mono hp _ _ (hr y), List.prefix_refl _, hI.updR i hb hres hrw hf hR hfp hlt, satS_mono hp (hk y hpy)⟩

/-- What a place holds, out of all that is known. -/
theorem n_ldI {t : TypeId} {ad : Addr} {dst : Option Nat} (r : SV) {v : Value} (hd : dstOk c dst = true) (hv : den ids r = some v) (hl : ∀ ids' w, ids <+: ids' → Inv c w ids' mem → (loadVar t ad).run c.P w = .ok v w)
    (h : satS c Q ⟨putF dst r fr, mem, todo⟩ ids) : satN c Q (.ld t ad dst ⟨fr, mem, todo⟩) ids :=
  satN_iff.2 ⟨r, fun ids' w hp hI => ⟨v, den_mono hp _ _ hv, hl ids' w hp hI⟩, by dsimp only; rw [putK_eq hd]; exact satS_iff.1 h⟩
theorem n_ldDI {t : TypeId} {ad : Addr} {i : Nat} {o : Oper} {all : List Oper} {ord : Odr} {rs : List Rec} (r : SV) {v : Value} (hd : dstOk c o.dst = true) (hv : den ids r = some v)
    (hl : ∀ ids' w, ids <+: ids' → Inv c w ids' mem → (loadVar t ad).run c.P w = .ok v w) (h : satS c Q ⟨putF o.dst r fr, mem, .draw all ord (⟨i, fr, o, r⟩ :: rs) :: todo⟩ ids) : satN c Q (.ldD t ad i o ⟨fr, mem, .draw all ord rs :: todo⟩) ids :=
  satN_iff.2 ⟨r, fun ids' w hp hI => ⟨v, den_mono hp _ _ hv, hl ids' w hp hI⟩, by dsimp only; rw [putK_eq hd]; exact satS_iff.1 h⟩
theorem n_ldRI {t : TypeId} {ad : Addr} {s : St} (r : SV) {v : Value} (hv : den ids r = some v) (hl : ∀ ids' w, ids <+: ids' → Inv c w ids' s.mem → (loadVar t ad).run c.P w = .ok v w) (h : satS c Q s ids) : satN c Q (.ldR t ad r s) ids :=
  satN_iff.2 ⟨r, fun ids' w hp hI => ⟨v, den_mono hp _ _ hv, hl ids' w hp hI⟩, ⟨rfl, satS_iff.1 h⟩⟩

/-- The three kinds of a load from a place that is not named, as one. -/
def ldOf (c : Ctx) (node : Node) (r : SV) : Option (TypeId × Addr × St) := match node with
  | .ld t a dst s => match dstOk c dst with | true => some (t, a, ⟨putF dst r s.fr, s.mem, s.todo⟩) | false => none
  | .ldD t a i o ⟨fr, mem, .draw all ord rs :: todo⟩ => match dstOk c o.dst with | true => some (t, a, ⟨putF o.dst r fr, mem, .draw all ord (⟨i, fr, o, r⟩ :: rs) :: todo⟩) | false => none
  | .ldR t a _ s => some (t, a, s)
  | _ => none
def ldEq (node : Node) (r : SV) : Prop := match node with
  | .ldR _ _ r0 _ => r = r0
  | _ => True
theorem n_ldA {node : Node} (r : SV) {t : TypeId} {ad : Addr} {s' : St} {v : Value} (hn : ldOf c node r = some (t, ad, s')) (he : ldEq node r) (hv : den ids r = some v) (hl : ∀ ids' w, ids <+: ids' → Inv c w ids' s'.mem → (loadVar t ad).run c.P w = .ok v w) (h : satS c Q s' ids) : satN c Q node ids := by
  unfold ldOf at hn
  split at hn
  · split at hn
    · rename_i hd
      simp only [Option.some.injEq, Prod.mk.injEq] at hn
      obtain ⟨rfl, rfl, rfl⟩ := hn
      exact n_ldI r hd hv hl h
    · cases hn
  · split at hn
    · rename_i hd
      simp only [Option.some.injEq, Prod.mk.injEq] at hn
      obtain ⟨rfl, rfl, rfl⟩ := hn
      exact n_ldDI r hd hv hl h
    · cases hn
  · simp only [Option.some.injEq, Prod.mk.injEq] at hn
    obtain ⟨rfl, rfl, rfl⟩ := hn
    have he' : r = _ := he
    subst he'
    exact n_ldRI _ hv hl h
  · cases hn

/-! ### New blocks get names ahead of a loop -/
theorem n_loopE {body : Code} (h : ∀ ids', ids <+: ids' → ids'.length = mem.length → satN c Q (.loop body ⟨fr, mem, todo⟩) ids') : satN c Q (.loop body ⟨fr, mem, todo⟩) ids :=
  satN_iff.2 fun ids' w a hp hI hF => satN_iff.1 (h ids' hp hI.len) ids' w a (List.prefix_refl _) hI hF
theorem n_loop1 {body : Code} (hl : mem.length = ids.length + 1) (h : ∀ n, satN c Q (.loop body ⟨fr, mem, todo⟩) (ids ++ [n])) : satN c Q (.loop body ⟨fr, mem, todo⟩) ids :=
  n_loopE fun ids' hp hl' => by
    obtain ⟨n, rfl⟩ := ext1 hp (by rw [hl', hl])
    exact h n
theorem n_loop2 {body : Code} (hl : mem.length = ids.length + 2) (h : ∀ n m, satN c Q (.loop body ⟨fr, mem, todo⟩) (ids ++ [n, m])) : satN c Q (.loop body ⟨fr, mem, todo⟩) ids :=
  n_loopE fun ids' hp hl' => by
    obtain ⟨n, m, rfl⟩ := ext2 hp (by rw [hl', hl])
    exact h n m

/-! ### A slice that grows -/
def rowRes (e : TypeId) (size : Nat) (o : Option Addr) (n cap : Nat) (xs : List Value) : Res where
  fp := match o with | some a => [a.block] | none => []
  R w := w.ownsRow 0 e size (.slice o n cap) n xs
  stable := by
    rintro w w' hk ⟨h1, h2⟩
    refine ⟨h1, ?_⟩
    rcases h2 with h2 | ⟨g, cap', cur, e1, h3, h4, h5⟩
    · exact .inl h2
    · injection e1 with e2 _ e3
      subst e2
      exact .inr ⟨g, cap', cur, by rw [e3], h3, (hk g (by simp)).trans h4, h5⟩

theorem rowRes_nil (e : TypeId) (size : Nat) (w : World) : (rowRes e size none 0 0 []).R w := World.ownsRow_nil w 0 e size
/-- A cell of it. -/
theorem rowRes_cell {e : TypeId} {size n cap : Nat} {a : Addr} {xs : List Value} {w : World} (h : (rowRes e size (some a) n cap xs).R w) {j : Nat} {u : Value} (hu : xs[j]? = some u) : w.cell? (a.add j) = some u := by
  have h' : w.ownsRow 0 e size (.slice (some a) n cap) n xs := h
  rcases h'.2 with ⟨h1, _⟩ | ⟨g, cap', cur, h1, _⟩
  · cases h1
  · simp at h1
    obtain ⟨rfl, _⟩ := h1
    exact h'.cells rfl j u hu

/-- append(xs, x): the new cell's row is laid first. -/
theorem n_build1 {o : Oper} {t e : TypeId} {x : Operand} {r z : SV} {xs zs : List SV} {n : Nat} (ho : o.op = .buildSlice t 1 #[(0, x)]) (hd : dstOk c o.dst = true) (hu : sliceElem c.P t = some e) (hz : zeroSV c.P e = some z) (hzs : cells1 z = some zs) (hs : sizeB c.P e = some n)
    (hn : Nat.ble 1 n = true) (hn2 : Nat.ble n 16777216 = true) (hzl : Nat.beq zs.length n = true) (hx : ev fr x = some r) (hc : cells1 r = some xs) (hxl : Nat.beq xs.length n = true)
    (h : satS c Q ⟨putF o.dst (.sl mem.length 0 1 1) fr, mem ++ [⟨e, xs, true⟩], todo⟩ ids) : satN c Q (.op o ⟨fr, mem, todo⟩) ids := by
  refine n_run hd fun ids' w ρ hp hI hρ => ?_
  have hx' := hρ x r hx
  obtain ⟨hdx, h1⟩ := cells1_den hc hx'
  have hlen : (ρ x).cells.size = n := by
    have := denL_len hdx
    have := Nat.eq_of_beq_eq_true hxl
    simp at *; omega
  have hn1 : 1 ≤ n := Nat.le_of_ble_eq_true hn
  have hn3 : n ≤ 16777216 := Nat.le_of_ble_eq_true hn2
  obtain ⟨it, zv, hit, hzero, hdz⟩ := zeroSV_ok (ids := ids') hz
  obtain ⟨hdzs, _⟩ := cells1_den hzs hdz
  have hzsz : zv.cells.size = n := by
    have := denL_len hdzs
    have := Nat.eq_of_beq_eq_true hzl
    simp at *; omega
  have hsz : it.size = n := by
    unfold sizeB at hs
    rw [hit] at hs
    simp [forceNat_eq] at hs
    exact hs
  have hul : c.P.underlying t = some (.slice e) := by
    unfold sliceElem at hu
    split at hu
    · rename_i e' he; simp at hu; subst hu; exact he
    · cases hu
  have hz0 : ((Array.range (1 * it.size)).map (zv.cells[· % zv.cells.size]!)) = zv.cells := by
    apply Array.ext
    · simp [hsz, hzsz]
    · intro i h1 h2
      simp at h1
      have : i % zv.cells.size = i := Nat.mod_eq_of_lt h2
      simp [this, h2]
  have hfill : Instr.fill (fun i => some (i * it.size, it.size)) ((Array.range (1 * it.size)).map (zv.cells[· % zv.cells.size]!)) [(0, ρ x)] = some (ρ x).cells := by
    rw [hz0]
    obtain ⟨m, hm1, hm2⟩ := fill_ok (ids := ids') (place := fun i => some (i * it.size, it.size)) (parts := [(0, r)]) (vparts := [(0, ρ x)]) (cells := zs) (r := xs) (l := zv.cells.toList) rfl (by simp [denL, hx']) hdzs (by
      have e1 : overwrite zs 0 xs = some xs := by
        have hlz := Nat.eq_of_beq_eq_true hzl
        have hlx := Nat.eq_of_beq_eq_true hxl
        have : ∀ (a b : List SV), a.length = b.length → over a b = some b := by
          intro a
          induction a with
          | nil => intro b hb; cases b with | nil => rfl | cons => simp at hb
          | cons p q ih => intro b hb; cases b with | nil => simp at hb | cons u v => simp at hb; simp [over, ih v hb]
        cases zs <;> exact this _ _ (by omega)
      simp only [fillEv, hc, hsz, hxl, Nat.zero_mul, e1])
    rw [hdx] at hm1
    simp at hm1
    subst hm1
    simpa using hm2
  refine ⟨.slice (some ⟨w.heap.size, 0, none⟩) 1 1, w.alloc (.cells (ρ x).cells e), .sl mem.length 0 1 1, mem ++ [⟨e, xs, true⟩], ids' ++ [w.heap.size], ?_, ?_, List.prefix_append _ _, ?_, satS_mono (hp.trans (List.prefix_append _ _)) h⟩
  · have hrun := run_buildSlice (P := c.P) w t e 1 #[(0, ρ x)] (ρ x).cells it zv hul hit hzero (by omega) (by omega) hfill
    unfold execOp
    simp [ho, hrun]
  · simp [den, ← hI.len]
  · refine hI.adds ((Frm.refl [] w).alloc _) [w.heap.size] [⟨e, xs, true⟩] rfl (by simp) (by simp) ?_
    intro i b m h2 h3
    cases i with
    | zero =>
      simp [nth] at h2 h3
      subst h2; subst h3
      exact ⟨_, denL_mono (List.prefix_append _ _) _ _ hdx, by simpa using Blk.new w (ρ x).cells e⟩
    | succ i => simp [nth] at h2

/-- The row grows. -/
theorem n_append {o : Oper} {t e te : TypeId} {x y : Operand} {oa : Option Addr} {n cap m mc j size bytes : Nat} {xs nv xs' : List Value} {bj : SBlk} {it : TypeInfo} {z : Value} (i : Nat)
    (ho : o.op = .call { callee := .builtin .append, args := #[x, y], argTypes := #[t, t] }) (hd : dstOk c o.dst = true) (hu : sliceElem c.P t = some e) (hit : c.P.info? e = some it) (hz : it.zero = some z) (hsz : it.size = size) (hby : it.bytes = bytes) (hzs : z.cells.size = size) (hs0 : 0 < size)
    (hx : ev fr x = some (.raw (.slice oa n cap))) (hy : ev fr y = some (.sl j 0 m mc)) (hb : nth mem i = some ⟨te, [.res (rowRes e size oa n cap xs)], true⟩) (hbj : blkAt mem j = some bj) (hnews : denL ids bj.cells = some nv) (hlen : nv.length = m * size) (hm : 0 < m) (h1 : ∀ u ∈ nv, u.oneCell' = true)
    (h63 : n + m ≤ 9223372036854775807) (hbytes : (n + m) * bytes ≤ 140737488355328) (hxs : xs ++ nv = xs')
    (hk : ∀ g cap', satS c Q ⟨putF o.dst (.raw (.slice (some ⟨g, 0, none⟩) (n + m) cap')) fr, setCells mem i [.res (rowRes e size (some ⟨g, 0, none⟩) (n + m) cap' xs')], todo⟩ ids) : satN c Q (.op o ⟨fr, mem, todo⟩) ids := by
  subst hxs
  refine n_run hd fun ids' w ρ hp hI hρ => ?_
  have hx' := hρ x _ hx
  have hy' := hρ y _ hy
  simp only [den, Option.some.injEq] at hx'
  have hown : w.ownsRow 0 e size (.slice oa n cap) n xs := hI.res i hb rfl
  obtain ⟨hbj1, hbj2⟩ := blkAt_eq hbj
  obtain ⟨q, l, hq, hl, hblk⟩ := hI.blk j bj hbj1 hbj2
  have hl' : l = nv := by
    have := denL_mono hp _ _ hnews
    rw [hl] at this; simpa using this
  subst hl'
  simp only [den, hq, Option.some.injEq] at hy'
  have hul : c.P.underlying t = some (.slice e) := by
    unfold sliceElem at hu
    split at hu
    · rename_i e' he; simp at hu; subst hu; exact he
    · cases hu
  have hcell : ∀ k u, l[k]? = some u → w.cell? ((⟨q, 0, none⟩ : Addr).add k) = some u := by
    intro k u hu
    have hadd : (⟨q, 0, none⟩ : Addr).add k = ⟨q, k, none⟩ := by unfold Addr.add; split <;> simp_all
    rw [hadd, hblk.cell]; simpa using hu
  obtain ⟨v', w', hrun, hown', hg, hnil, hbl⟩ := run_append_own_at (P := c.P) w 0 t o.type e it z size bytes hul hit hz hsz hby hzs hs0 (.slice oa n cap) n xs hown ⟨q, 0, none⟩ m mc l hlen hcell h1 (by unfold maxLen; omega) hbytes (Nat.zero_le _)
  have hform : ∃ g cap', v' = .slice (some ⟨g, 0, none⟩) (n + m) cap' := by
    rcases hown'.2 with ⟨_, h0⟩ | ⟨g, cap', cur, e1, _⟩
    · omega
    · exact ⟨g, cap', e1⟩
  obtain ⟨g, cap', rfl⟩ := hform
  have hgl : ∀ x ∈ (rowRes e size (some ⟨g, 0, none⟩) (n + m) cap' (xs ++ l)).fp, x < w'.heap.size := by
    intro x hx
    simp [rowRes] at hx
    subst hx
    exact (hown'.lt x rfl).2
  refine ⟨_, w', .raw (.slice (some ⟨g, 0, none⟩) (n + m) cap'), setCells mem i [.res (rowRes e size (some ⟨g, 0, none⟩) (n + m) cap' (xs ++ l))], ids', ?_, rfl, List.prefix_refl _, ?_, satS_mono hp (hk g cap')⟩
  · unfold execOp
    simp only [ho, resolve, invoke, builtin, Sem.run_bind, Sem.run_pure, Result.andThen_ok, List.map_toArray, List.map_cons, List.map_nil, ← hx', ← hy', hrun]
  · refine hI.updR i hb rfl rfl ?_ hown' ?_ hgl
    · refine ⟨hg.os, hg.tape, hg.output, hg.size, fun k hk hkn => hg.block k hk ?_, run_drawn _ _ hrun⟩
      cases oa with
      | none => simp [Value.ownBlock]
      | some a => simp [rowRes, Value.ownBlock] at hkn ⊢; exact hkn
    · intro x hx
      simp [rowRes] at hx
      subst hx
      rcases hbl with h | h
      · cases oa with
        | none => simp [Value.ownBlock] at h
        | some a => simp [Value.ownBlock] at h; simp [rowRes, h]
      · simp [Value.ownBlock] at h; omega
end
end Go.Proofs.YtglafgpjgkphkaaGreatDoor
