/- The machine in use, more: a call that writes two blocks; elements of slices that came in. -/
import Derived.Test.YtglafgpjgkphkaaGreatDoorMp
set_option linter.unusedVariables false
set_option linter.unusedSimpArgs false
namespace Go.Proofs.YtglafgpjgkphkaaGreatDoor
open Go.RowKit

section
variable {c : Ctx} {Q : SExit → Fr → Mem → List Nat → World → Prop} {ids : List Nat} {w : World} {fr : Fr} {mem : Mem} {todo : List Task}

theorem Inv.upd2 (hI : Inv c w ids mem) {w' : World} (i j : Nat) {b b2 : SBlk} {n m : Nat} {cs cs2 : List SV} {l l2 : List Value} (hij : i ≠ j) (hb : nth mem i = some b) (hn : ids[i]? = some n) (hrw : wrB b = true) (hd : denL ids cs = some l)
    (hb2 : nth mem j = some b2) (hm : ids[j]? = some m) (hrw2 : wrB b2 = true) (hd2 : denL ids cs2 = some l2)
    (hf : Frm [n, m] w w') (hw : Blk w' n l.toArray b.ty) (hw2 : Blk w' m l2.toArray b2.ty) : Inv c w' ids (setNth (setNth mem i { b with cells := cs }) j { b2 with cells := cs2 }) := by
  obtain ⟨hrw, hr⟩ := wrB_eq hrw
  obtain ⟨hrw2, hr2⟩ := wrB_eq hrw2
  have hown := hI.own _ _ hb hrw n (by rw [fpOf_cells hr hn]; simp)
  have hown2 := hI.own _ _ hb2 hrw2 m (by rw [fpOf_cells hr2 hm]; simp)
  have hr' : resOf { b with cells := cs } = none := resOf_cells hd
  have hr2' : resOf { b2 with cells := cs2 } = none := resOf_cells hd2
  have key : ∀ k b', nth (setNth (setNth mem i { b with cells := cs }) j { b2 with cells := cs2 }) k = some b' → (k = j ∧ b' = { b2 with cells := cs2 }) ∨ (k ≠ j ∧ k = i ∧ b' = { b with cells := cs }) ∨ (k ≠ j ∧ k ≠ i ∧ nth mem k = some b') := by
    intro k b' hk
    rw [nth_setNth] at hk
    split at hk
    · rename_i h1
      rw [if_pos (by rw [setNth_len]; exact nth_lt hb2)] at hk
      exact .inl ⟨h1.symm, by simpa using hk.symm⟩
    · rename_i h1
      rw [nth_setNth] at hk
      split at hk
      · rename_i h2
        rw [if_pos (nth_lt hb)] at hk
        exact .inr (.inl ⟨fun e => h1 e.symm, h2.symm, by simpa using hk.symm⟩)
      · rename_i h2
        exact .inr (.inr ⟨fun e => h1 e.symm, fun e => h2 e.symm, hk⟩)
  refine hI.step hf (by intro x hx; simp at hx; rcases hx with rfl | rfl <;> first | exact hown | exact hown2) (by simp [setNth_len]) ?_ ?_
  · intro k b' hk
    rcases key k b' hk with ⟨rfl, rfl⟩ | ⟨_, rfl, rfl⟩ | ⟨h1, h2, h3⟩
    · refine ⟨b2, hb2, rfl, ?_, .inr (.mk hm hd2 hw2)⟩
      rw [fpOf_cells hr2' hm, fpOf_cells hr2 hm]
      exact fun x hx => .inl hx
    · refine ⟨b, hb, rfl, ?_, .inr (.mk hn hd hw)⟩
      rw [fpOf_cells hr' hn, fpOf_cells hr hn]
      exact fun x hx => .inl hx
    · refine ⟨b', h3, rfl, fun x hx => .inl hx, .inl ⟨rfl, fun x hx => ?_⟩⟩
      have e1 := hI.apart k i b' b h3 hb h2 x hx
      have e2 := hI.apart k j b' b2 h3 hb2 h1 x hx
      rw [fpOf_cells hr hn] at e1
      rw [fpOf_cells hr2 hm] at e2
      simp at e1 e2 ⊢
      exact ⟨e1, e2⟩
  · intro k k' bj bk hj hk hjk x hx hxs
    have : x < w.heap.size := by
      rcases key k bj hj with ⟨rfl, rfl⟩ | ⟨_, rfl, rfl⟩ | ⟨h1, h2, h3⟩
      · rw [fpOf_cells hr2' hm] at hx
        exact (hI.good k b2 hb2).lt x (by rw [fpOf_cells hr2 hm]; exact hx)
      · rw [fpOf_cells hr' hn] at hx
        exact (hI.good k b hb).lt x (by rw [fpOf_cells hr hn]; exact hx)
      · exact (hI.good k bj h3).lt x hx
    omega

theorem nth_setCells_ne {cs : List SV} : ∀ {mem : Mem} {i j : Nat}, i ≠ j → nth (setCells mem i cs) j = nth mem j
  | [], _, _, _ => rfl
  | ⟨_, _, _⟩ :: xs, 0, 0, h => absurd rfl h
  | ⟨_, _, _⟩ :: xs, 0, j + 1, _ => rfl
  | x :: xs, i + 1, 0, _ => rfl
  | x :: xs, i + 1, j + 1, h => nth_setCells_ne (mem := xs) (by omega)

/-- A call that writes two of the blocks. -/
theorem n_upd2P {f : FuncId} {args : List SV} {vs : List Value} {dst : Option Nat} (i j : Nat) (r : SV) (cs cs2 : List SV) {v : Value} {b b2 : SBlk} {n m : Nat} {l l2 : List Value} (hd : dstOk c dst = true) (hv : denL ids args = some vs) (hr : den ids r = some v)
    (hij : Nat.beq i j = false) (hb : nth mem i = some b) (hn : ids[i]? = some n) (hrw : wrB b = true) (hc : denL ids cs = some l) (hb2 : nth mem j = some b2) (hm : ids[j]? = some m) (hrw2 : wrB b2 = true) (hc2 : denL ids cs2 = some l2)
    (h : ∀ ids' w, ids <+: ids' → Inv c w ids' mem → Calls c.P f vs.toArray w (fun e w2 => e = .returned v ∧ Frm [n, m] w w2 ∧ Blk w2 n l.toArray b.ty ∧ Blk w2 m l2.toArray b2.ty))
    (hk : satS c Q ⟨putF dst r fr, setCells (setCells mem i cs) j cs2, todo⟩ ids) : satN c Q (.call f args dst ⟨fr, mem, todo⟩) ids := by
  have hne : i ≠ j := fun e => by rw [e] at hij; simp at hij
  refine n_call hd hv fun ids' w hp hI => (h ids' w hp hI).mono fun e w2 ⟨he, hf, h1, h2⟩ => ?_
  refine ⟨r, v, setCells (setCells mem i cs) j cs2, ids', he, den_mono hp _ _ hr, List.prefix_refl _, ?_, ?_⟩
  · rw [setCells_eq (mem := setCells mem i cs) (i := j) (b := b2) (by rw [nth_setCells_ne hne]; exact hb2), setCells_eq hb]
    exact hI.upd2 i j hne hb (pre_at hp hn) hrw (denL_mono hp _ _ hc) hb2 (pre_at hp hm) hrw2 (denL_mono hp _ _ hc2) hf h1 h2
  · exact satS_iff.2 (sat_mono _ hp (satS_iff.1 hk))
end

/-! ### The ends of a round -/
section
variable {c : Ctx} {Q : SExit → Fr → Mem → List Nat → World → Prop} {ids : List Nat} {fr : Fr} {mem : Mem} {todo : List Task} {N : Fr → Mem → Prop}
theorem satS_mono {s : St} {ids' : List Nat} (hp : ids <+: ids') (h : satS c Q s ids) : satS c Q s ids' := satS_iff.2 (sat_mono _ hp (satS_iff.1 h))
/-- The loop is left. -/
theorem n_exit {i : Nat} {r : List Task} (hr : popTo i todo = some r) (h : satS c Q ⟨fr, mem, r⟩ ids) : satN c (roundQ c Q todo N) (.fin (.exit i) fr mem) ids :=
  n_fin fun ids' w' hp _ => by
    simp only [roundQ, hr]
    exact satS_mono hp h
/-- Another round. -/
theorem n_again (h : N fr mem) : satN c (roundQ c Q todo N) (.fin .normal fr mem) ids := n_fin fun ids' w' hp _ => h
/-- The function is left. -/
theorem n_leave (h : satN c Q (.fin .ret fr mem) ids) : satN c (roundQ c Q todo N) (.fin .ret fr mem) ids := n_fin fun ids' w' hp _ => satN_iff.2 fun ids2 w2 hp2 hI2 => satN_iff.1 h ids2 w2 (hp.trans hp2) hI2
end

/-! ### A slice that came in -/
/-- The value v is a slice of n elements of size cells each; element i holds the cells f i. -/
def RawSl (w : World) (B size : Nat) (o : Option Addr) (n : Nat) (f : Nat → List Value) : Prop :=
  ∀ i, i < n → ∃ a, o = some a ∧ a.block < B ∧ (f i).length = size ∧ ∀ j u, (f i)[j]? = some u → w.cell? (a.add (i * size + j)) = some u
theorem block_add (a : Addr) (n : Nat) : (a.add n).block = a.block := by unfold Addr.add; split <;> rfl
theorem add_add (a : Addr) (i j : Nat) : (a.add i).add j = a.add (i + j) := by
  unfold Addr.add
  by_cases hi : i = 0 <;> by_cases hj : j = 0 <;> simp [hi, hj, Nat.add_assoc]
theorem RawSl.frm {w w' : World} {B size : Nat} {o : Option Addr} {n : Nat} {f : Nat → List Value} (h : RawSl w B size o n f) {S : List Nat} (hf : Frm S w w') (hB : B ≤ w.heap.size) (hS : ∀ x ∈ S, B ≤ x) : RawSl w' B size o n f := fun i hi => by
  obtain ⟨a, h1, h2, h3, h4⟩ := h i hi
  exact ⟨a, h1, h2, h3, fun j u hu => ((hf.below hB hS).cell (by rw [block_add]; exact h2)).trans (h4 j u hu)⟩

theorem load_row {P : Program} {w : World} {t : TypeId} {ad : Addr} {l : List Value} (ht : aggB P t = some true) (hs : sizeB P t = some l.length) (hc : ∀ j u, l[j]? = some u → w.cell? (ad.add j) = some u) : (loadVar t ad).run P w = .ok (.agg l.toArray) w := by
  have h1 : (isAgg t).run P w = .ok true w := aggB_run (c := { P, N := 0, os := [], S := [], w0 := w }) (w := w) ht
  have h2 : (sizeOf t).run P w = .ok l.length w := sizeB_run (c := { P, N := 0, os := [], S := [], w0 := w }) (w := w) hs
  have h3 := run_loadCells_list (P := P) (w := w) ad l hc
  simp only [loadVar, Sem.run_bind, h1, Result.andThen_ok, if_true, h2, h3, Sem.run_pure]

/-! ### Steps that need no word, as a theorem whose premise is found by them -/
structure Hide (B : Prop) : Prop where
  h : B
structure Hide1 (B : Nat → Prop) : Prop where
  h : ∀ n, B n
/-- What several ways come to, proved once. -/
theorem later {A X : Prop} (f : Hide X → A) (x : X) : A := f ⟨x⟩
theorem later1 {A : Prop} {X : Nat → Prop} (f : Hide1 X → A) (x : ∀ n, X n) : A := f ⟨x⟩
theorem gs {A B : Prop} (x : B) (h : Hide B → A := by intro hB; refine st rfl ?_; (conv => arg 3; whnf); exact hB.1) : A := h ⟨x⟩
theorem gw {A B : Prop} (x : B) (h : Hide B → A := by intro hB; (repeat ((first | refine n_must rfl ?_ | refine n_chk (drawF_ok (by decide +kernel)) ?_ | refine n_same rfl ?_ | ((first | refine n_must ?_ ?_ | refine n_brT ?_ ?_); (focus (first | (simp; done) | (simp; omega)))) | (refine n_brF ?_ ?_; (focus (first | (simp; done) | (simp; omega)))) | refine n_must (by (with_reducible refine and_shape ?_) <;> kernel_rfl) ?_); (refine st rfl ?_; conv => arg 3; whnf))); exact hB.1) : A := h ⟨x⟩
theorem gg {A B : Prop} (x : B) (h : Hide B → A := by intro hB; (repeat ((first | refine n_must rfl ?_ | refine n_chk (drawF_ok (by decide +kernel)) ?_ | refine n_same rfl ?_ | (refine n_brT ?_ ?_; (focus (simp <;> fail))) | (refine n_brF ?_ ?_; (focus (simp <;> fail)))); (refine st rfl ?_; conv => arg 3; whnf))); exact hB.1) : A := h ⟨x⟩
end Go.Proofs.YtglafgpjgkphkaaGreatDoor
