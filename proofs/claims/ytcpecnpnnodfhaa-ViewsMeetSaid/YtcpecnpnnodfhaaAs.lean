/- append([]T{..}, l...): a new block grows by a slice; a part is shrunk. -/
import Derived.Test.YtcpecnpnnodfhaaGath
set_option linter.unusedVariables false
set_option linter.unusedSimpArgs false
namespace Go.Proofs.Ytcpecnpnnodfhaa
open Go.RowKit

section
variable {c : Ctx} {Q : SExit → Fr → Mem → List Nat → World → Prop} {ids : List Nat} {w : World} {fr : Fr} {mem : Mem} {todo : List Task}
/-- A known block as a row. -/
theorem Inv.asRow (hI : Inv c w ids mem) (j : Nat) {bj : SBlk} {q n size : Nat} {xs : List Value} (hb : nth mem j = some bj) (hr : resOf bj = none) (hq : ids[j]? = some q) (hd : denL ids bj.cells = some xs) (hl : xs.length = n * size) (hn : n ≤ 9223372036854775807) :
    Inv c w ids (setCells mem j [.res (rowRes bj.ty size (some ⟨q, 0, none⟩) n n xs)]) := by
  obtain ⟨n', l, h1, h2, hB⟩ := (hI.good j bj hb).blk hr
  rw [hq] at h1; simp at h1; subst h1
  rw [hd] at h2; simp at h2; subst h2
  have hR : (rowRes bj.ty size (some ⟨q, 0, none⟩) n n xs).R w := by
    show w.ownsRow 0 bj.ty size (.slice (some ⟨q, 0, none⟩) n n) n xs
    refine ⟨hl, .inr ⟨q, n, xs.toArray, rfl, Nat.zero_le _, hB, Nat.le_refl _, by unfold maxLen; omega, by simp [hl], ?_⟩⟩
    simp [← hl]
  rw [setCells_eq hb]
  have hfp : ∀ k, fpOf ids k { bj with cells := [SV.res (rowRes bj.ty size (some ⟨q, 0, none⟩) n n xs)] } = [q] := fun k => by rw [fpOf_res (r := rowRes bj.ty size (some ⟨q, 0, none⟩) n n xs) rfl]; rfl
  have hfj : fpOf ids j bj = [q] := fpOf_cells hr hq
  have key : ∀ k b, nth (setNth mem j { bj with cells := [SV.res (rowRes bj.ty size (some ⟨q, 0, none⟩) n n xs)] }) k = some b → (k = j ∧ b = { bj with cells := [SV.res (rowRes bj.ty size (some ⟨q, 0, none⟩) n n xs)] }) ∨ (k ≠ j ∧ nth mem k = some b) := by
    intro k b hk
    rw [nth_setNth] at hk
    split at hk
    · rename_i h1
      rw [if_pos (nth_lt hb)] at hk
      exact .inl ⟨h1.symm, by simpa using hk.symm⟩
    · rename_i h1
      exact .inr ⟨fun e => h1 e.symm, hk⟩
  have hfpe : ∀ k b, nth (setNth mem j { bj with cells := [SV.res (rowRes bj.ty size (some ⟨q, 0, none⟩) n n xs)] }) k = some b → ∃ b0, nth mem k = some b0 ∧ fpOf ids k b = fpOf ids k b0 ∧ b.rw = b0.rw := by
    intro k b hk
    rcases key k b hk with ⟨rfl, rfl⟩ | ⟨_, h⟩
    · exact ⟨bj, hb, by rw [hfp, hfj], rfl⟩
    · exact ⟨b, h, rfl, rfl⟩
  refine ⟨hI.frm, by simp [setNth_len, hI.len], ?_, ?_, ?_⟩
  · intro k b hk
    rcases key k b hk with ⟨rfl, rfl⟩ | ⟨_, h⟩
    · refine ⟨hR, fun x hx => ?_⟩
      have := (hI.good k bj hb).lt x (by rw [hfj]; simpa [rowRes] using hx)
      exact this
    · exact hI.good k b h
  · intro i k bi bk hi hk hik x hx hxk
    obtain ⟨b1, h1, h2, _⟩ := hfpe i bi hi
    obtain ⟨b2, h3, h4, _⟩ := hfpe k bk hk
    rw [h2] at hx
    rw [h4] at hxk
    exact hI.apart i k b1 b2 h1 h3 hik x hx hxk
  · intro i b hi hrw x hx
    obtain ⟨b1, h1, h2, h3⟩ := hfpe i b hi
    rw [h2] at hx
    exact hI.own i b1 h1 (h3 ▸ hrw) x hx

theorem run_append_noneS {P : Program} {w : World} {t ty e : TypeId} {i : TypeInfo} {b : Addr} {n mc : Nat} (ht : P.underlying t = some (.slice e)) (hi : P.info? e = some i) :
    (Builtin.append_ #[t, t] ty #[.slice (some b) n n, .slice none 0 mc]).run P w = .ok (.slice (some b) n n) w := by
  simp [Builtin.append_, run_underlying ht, sizeOf, typeInfo, hi, Builtin.lenOf, Builtin.firstCells, storeCells]

theorem n_appendS {o : Oper} {t e : TypeId} {x y : Operand} {oa : Option Addr} {n m mc j q size bytes : Nat} {xs nv xs' : List Value} {bj : SBlk} {it : TypeInfo} {z : Value}
    (ho : o.op = .call { callee := .builtin .append, args := #[x, y], argTypes := #[t, t] }) (hd : dstOk c o.dst = true) (hu : sliceElem c.P t = some e) (hit : c.P.info? e = some it) (hz : it.zero = some z) (hsz : it.size = size) (hby : it.bytes = bytes) (hzs : z.cells.size = size) (hs0 : 0 < size)
    (hx : ev fr x = some (.sl j 0 n n)) (hb : nth mem j = some bj) (hr : resOf bj = none) (hrw : bj.rw = true) (hty : bj.ty = e) (hq : ids[j]? = some q) (hdj : denL ids bj.cells = some xs) (hlx : xs.length = n * size)
    (hy : ev fr y = some (.raw (.slice oa m mc))) (hlen : nv.length = m * size) (hcell : ∀ ids' w, ids <+: ids' → Inv c w ids' mem → ∀ k u, nv[k]? = some u → ∃ a, oa = some a ∧ w.cell? (a.add k) = some u) (hnil : oa = none → m = 0) (h1 : ∀ u ∈ nv, u.oneCell' = true)
    (h63 : n + m ≤ 9223372036854775807) (hbytes : (n + m) * bytes ≤ 140737488355328) (hn0 : 0 < n) (hxs : xs ++ nv = xs')
    (hk : ∀ g cap', satS c Q ⟨putF o.dst (.raw (.slice (some ⟨g, 0, none⟩) (n + m) cap')) fr, setCells mem j [.res (rowRes e size (some ⟨g, 0, none⟩) (n + m) cap' xs')], todo⟩ ids) : satN c Q (.op o ⟨fr, mem, todo⟩) ids := by
  subst hxs
  subst hty
  refine n_run hd fun ids' w ρ hp hI hρ => ?_
  have hx' := hρ x _ hx
  have hy' := hρ y _ hy
  have hqp := pre_at hp hq
  simp only [den, Option.some.injEq] at hy'
  simp only [den, hqp, Option.some.injEq] at hx'
  have hI2 := hI.asRow j hb hr hqp (denL_mono hp _ _ hdj) hlx (by omega)
  have hb2 : nth (setCells mem j [.res (rowRes bj.ty size (some ⟨q, 0, none⟩) n n xs)]) j = some { bj with cells := [.res (rowRes bj.ty size (some ⟨q, 0, none⟩) n n xs)] } := nth_setCells hb
  have hown : w.ownsRow 0 bj.ty size (.slice (some ⟨q, 0, none⟩) n n) n xs := hI2.res j hb2 rfl
  have hul : c.P.underlying t = some (.slice bj.ty) := by
    unfold sliceElem at hu
    split at hu
    · rename_i e' he; simp at hu; rw [← hu]; exact he
    · cases hu
  have hset : ∀ r : Res, setCells (setCells mem j [.res (rowRes bj.ty size (some ⟨q, 0, none⟩) n n xs)]) j [.res r] = setCells mem j [.res r] := by
    intro r
    rw [setCells_eq hb2, setCells_eq hb, setCells_eq hb]
    have : ∀ (l : List SBlk) (i : Nat) (x z : SBlk), setNth (setNth l i x) i z = setNth l i z := by
      intro l
      induction l with
      | nil => intros; rfl
      | cons a l ih => intro i x z; cases i with | zero => rfl | succ i => simp only [setNth, ih]
    rw [this]
  cases oa with
  | none =>
    have hm := hnil rfl
    subst hm
    have hnv : nv = [] := List.eq_nil_of_length_eq_zero (by simpa using hlen)
    subst hnv
    have hrun := run_append_noneS (P := c.P) (w := w) (ty := o.type) (b := ⟨q, 0, none⟩) (n := n) (mc := mc) hul hit
    refine ⟨_, w, .raw (.slice (some ⟨q, 0, none⟩) (n + 0) n), setCells mem j [.res (rowRes bj.ty size (some ⟨q, 0, none⟩) (n + 0) n (xs ++ []))], ids', ?_, rfl, List.prefix_refl _, ?_, satS_mono hp (hk q n)⟩
    · unfold execOp
      simp only [ho, resolve, invoke, builtin, Sem.run_bind, Sem.run_pure, Result.andThen_ok, List.map_toArray, List.map_cons, List.map_nil, ← hx', ← hy', hrun]
      rfl
    · simpa using hI2
  | some a =>
    have hnews : ∀ k u, nv[k]? = some u → w.cell? (a.add k) = some u := fun k u hu => by
      obtain ⟨a', h, h'⟩ := hcell ids' w hp hI k u hu
      simp at h; subst h; exact h'
    obtain ⟨v', w', hrun, hown', hg, hnil', hbl⟩ := run_append_own_at (P := c.P) w 0 t o.type bj.ty it z size bytes hul hit hz hsz hby hzs hs0 (.slice (some ⟨q, 0, none⟩) n n) n xs hown a m mc nv hlen hnews h1 (by unfold maxLen; omega) hbytes (Nat.zero_le _)
    have hform : ∃ g cap', v' = .slice (some ⟨g, 0, none⟩) (n + m) cap' := by
      rcases hown'.2 with ⟨_, h0⟩ | ⟨g, cap', cur, e1, _⟩
      · omega
      · exact ⟨g, cap', e1⟩
    obtain ⟨g, cap', rfl⟩ := hform
    have hgl : ∀ x ∈ (rowRes bj.ty size (some ⟨g, 0, none⟩) (n + m) cap' (xs ++ nv)).fp, x < w'.heap.size := by
      intro x hx
      simp [rowRes] at hx
      subst hx
      exact (hown'.lt x rfl).2
    refine ⟨_, w', .raw (.slice (some ⟨g, 0, none⟩) (n + m) cap'), setCells mem j [.res (rowRes bj.ty size (some ⟨g, 0, none⟩) (n + m) cap' (xs ++ nv))], ids', ?_, rfl, List.prefix_refl _, ?_, satS_mono hp (hk g cap')⟩
    · unfold execOp
      simp only [ho, resolve, invoke, builtin, Sem.run_bind, Sem.run_pure, Result.andThen_ok, List.map_toArray, List.map_cons, List.map_nil, ← hx', ← hy', hrun]
    · rw [← hset]
      refine hI2.updR j hb2 rfl hrw ?_ hown' ?_ hgl
      · refine ⟨hg.os, hg.tape, hg.output, hg.size, fun k hk hkn => hg.block k hk ?_, run_drawn _ _ hrun⟩
        simp [rowRes, Value.ownBlock] at hkn ⊢; exact hkn
      · intro x hx
        simp [rowRes] at hx
        subst hx
        rcases hbl with h | h
        · simp [Value.ownBlock] at h; simp [rowRes, h]
        · simp [Value.ownBlock] at h; omega

/-- A part of two is shrunk to its first. -/
theorem Inv.fst (hI : Inv c w ids mem) (i : Nat) {b : SBlk} {ρ σ : Res} (hb : nth mem i = some b) (hr : resOf b = some (ρ.both σ)) (hrw : b.rw = true) : Inv c w ids (setCells mem i [.res ρ]) :=
  hI.updR (w' := w) (ρ' := ρ) i hb hr hrw ((Frm.refl [] w).mono (by simp)) (hI.res i hb hr).1 (fun x hx => .inl (by simp [Res.both, hx])) (fun x hx => hI.resLt i hb hr x (by simp [Res.both, hx]))
end
end Go.Proofs.Ytcpecnpnnodfhaa
