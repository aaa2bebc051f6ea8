/- Maps in the machine: look-ups, stores, new maps. -/
import Derived.Test.YtfcbcgjgkleonaaMap
set_option linter.unusedVariables false
set_option linter.unusedSimpArgs false
set_option linter.unusedSectionVars false
namespace Go.Proofs.Ytfcbcgjgkleonaa
open Go.RowKit
open Go.Maps (Keyed)

section
variable {c : Ctx} {Q : SExit → Fr → Mem → List Nat → World → Prop} {ids : List Nat} {w : World} {fr : Fr} {mem : Mem} {todo : List Task}
variable {k e t : TypeId} {κ ν : Type} [DecidableEq κ] {E : KeyEnc c.P k κ} {ev' : ν → Value}

theorem n_lookup {o : Oper} {x key : Operand} {cok : Bool} {b : Nat} {kr zr : SV} {z : Value} (m : List (κ × ν)) (kx : κ) (r : SV) (K : Keyed c.P k) (ho : o.op = .lookup t x key cok) (hd : dstOk c o.dst = true) (ht : c.P.underlying t = some (.map k e))
    (hx : ev fr x = some (.raw (.map (some b)))) (hkey : ev fr key = some kr) (hkr : den ids kr = some (E.ek kx)) (hok : E.ok kx) (hz : zeroSV c.P e = some zr) (hzd : den ids zr = some z)
    (hr : den ids r = some (if cok then .tuple #[((mget m kx).map ev').getD z, .bool (mget m kx).isSome] else ((mget m kx).map ev').getD z)) (h : ∀ ids' w, ids <+: ids' → Inv c w ids' mem → MapOf E ev' w b m)
    (hk : satS c Q ⟨putF o.dst r fr, mem, todo⟩ ids) : satN c Q (.op o ⟨fr, mem, todo⟩) ids :=
  n_run hd fun ids' w ρ hp hI hρ => by
    have hx' := hρ x _ hx
    have hk' := hρ key _ hkey
    rw [den_mono hp _ _ hkr] at hk'
    simp only [den, Option.some.injEq] at hx' hk'
    obtain ⟨it, zv, hit, hzero, hdz⟩ := zeroSV_ok (ids := ids') hz
    rw [den_mono hp _ _ hzd] at hdz
    simp at hdz; subst hdz
    have hzr : (zeroValue e).run c.P w = .ok z w := by simp [zeroValue, typeInfo, hit, hzero]
    have hrun := (h ids' w hp hI).lookup K ht kx hok hzr cok
    refine ⟨_, w, r, mem, ids', ?_, den_mono hp _ _ hr, List.prefix_refl _, hI, satS_mono hp hk⟩
    unfold execOp
    simp [ho, ← hx', ← hk', hrun]

/-- A store into a map that belongs to a part. -/
theorem n_mapUpdate {o : Oper} {x key val : Operand} {b i : Nat} {kr vr : SV} {bl : SBlk} {ρ : Res} (ρ' : Res) (m : List (κ × ν)) (kx : κ) (y : ν) (K : Keyed c.P k) (ho : o.op = .mapUpdate t x key val) (hd : dstOk c o.dst = true) (ht : c.P.underlying t = some (.map k e))
    (hx : ev fr x = some (.raw (.map (some b)))) (hkey : ev fr key = some kr) (hkr : den ids kr = some (E.ek kx)) (hok : E.ok kx) (hval : ev fr val = some vr) (hvr : den ids vr = some (ev' y)) (hb : nth mem i = some bl) (hres : resOf bl = some ρ) (hrw : bl.rw = true)
    (hbf : b ∈ ρ.fp) (hfp : ρ'.fp = ρ.fp) (h : ∀ ids' w, ids <+: ids' → Inv c w ids' mem → ρ.R w → MapOf E ev' w b m) (h' : ∀ ids' w w', ids <+: ids' → Inv c w ids' mem → ρ.R w → Frm [b] w w' → MapOf E ev' w' b (mput m kx y) → ρ'.R w')
    (hk : satS c Q ⟨putF o.dst .undef fr, setCells mem i [.res ρ'], todo⟩ ids) : satN c Q (.op o ⟨fr, mem, todo⟩) ids :=
  n_runS hd fun ids' w ρ0 hp hI hρ => by
    have hx' := hρ x _ hx
    have hk' := hρ key _ hkey
    have hv' := hρ val _ hval
    rw [den_mono hp _ _ hkr] at hk'
    rw [den_mono hp _ _ hvr] at hv'
    simp only [den, Option.some.injEq] at hx' hk' hv'
    have hR := hI.res i hb hres
    obtain ⟨w', hrun, hf, hm⟩ := (h ids' w hp hI hR).update K ht kx hok y
    refine ⟨w', setCells mem i [.res ρ'], ids', ?_, List.prefix_refl _, ?_, satS_mono hp hk⟩
    · unfold execOp
      simp [ho, ← hx', ← hk', ← hv', hrun]
    · refine hI.updR i hb hres hrw (hf.mono (fun z hz => by simp at hz; subst hz; exact hbf)) (h' ids' w w' hp hI hR hf hm) (fun z hz => .inl (hfp ▸ hz)) fun z hz => ?_
      have := hI.resLt i hb hres z (hfp ▸ hz)
      have := hf.size; omega
theorem n_delete {o : Oper} {x key : Operand} {b i : Nat} {kr : SV} {bl : SBlk} {ρ : Res} (ρ' : Res) (m : List (κ × ν)) (kx : κ) (K : Keyed c.P k) (ho : o.op = .call { callee := .builtin .delete, args := #[x, key], argTypes := #[t, k] }) (hd : dstOk c o.dst = true) (ht : c.P.underlying t = some (.map k e))
    (hx : ev fr x = some (.raw (.map (some b)))) (hkey : ev fr key = some kr) (hkr : den ids kr = some (E.ek kx)) (hok : E.ok kx) (hb : nth mem i = some bl) (hres : resOf bl = some ρ) (hrw : bl.rw = true)
    (hbf : b ∈ ρ.fp) (hfp : ∀ z ∈ ρ'.fp, z ∈ ρ.fp) (h : ∀ ids' w, ids <+: ids' → Inv c w ids' mem → ρ.R w → MapOf E ev' w b m) (h' : ∀ ids' w w', ids <+: ids' → Inv c w ids' mem → ρ.R w → Frm [b] w w' → MapOf E ev' w' b (mdel m kx) → ρ'.R w')
    (hk : satS c Q ⟨putF o.dst (.tup []) fr, setCells mem i [.res ρ'], todo⟩ ids) : satN c Q (.op o ⟨fr, mem, todo⟩) ids :=
  n_run hd fun ids' w ρ0 hp hI hρ => by
    have hx' := hρ x _ hx
    have hk' := hρ key _ hkey
    rw [den_mono hp _ _ hkr] at hk'
    simp only [den, Option.some.injEq] at hx' hk'
    have hR := hI.res i hb hres
    obtain ⟨w', hrun, hf, hm⟩ := (h ids' w hp hI hR).delete K ht kx hok o.type
    refine ⟨.tuple #[], w', .tup [], setCells mem i [.res ρ'], ids', ?_, rfl, List.prefix_refl _, ?_, satS_mono hp hk⟩
    · unfold execOp
      simp only [ho, resolve, invoke, builtin, Sem.run_bind, Sem.run_pure, Result.andThen_ok, List.map_toArray, List.map_cons, List.map_nil, ← hx', ← hk', hrun]
    · refine hI.updR i hb hres hrw (hf.mono (fun z hz => by simp at hz; subst hz; exact hbf)) (h' ids' w w' hp hI hR hf hm) (fun z hz => .inl (hfp z hz)) fun z hz => ?_
      have := hI.resLt i hb hres z (hfp z hz)
      have := hf.size; omega

/-- A new part: new blocks, and what holds of them. -/
theorem Inv.addR (hI : Inv c w ids mem) {w' : World} (hf : Frm [] w w') (ρ : Res) (ty : TypeId) (rw_ : Bool) (hR : ρ.R w') (hnew : ∀ x ∈ ρ.fp, w.heap.size ≤ x) (hlt : ∀ x ∈ ρ.fp, x < w'.heap.size) : Inv c w' (ids ++ [0]) (mem ++ [⟨ty, [.res ρ], rw_⟩]) := by
  have hI' := hI.same hf
  have hp : ids <+: ids ++ [0] := List.prefix_append _ _
  have hat : ∀ i b, nth (mem ++ [⟨ty, [.res ρ], rw_⟩]) i = some b → (i < ids.length ∧ nth mem i = some b ∧ fpOf (ids ++ [0]) i b = fpOf ids i b) ∨ (i = mem.length ∧ b = ⟨ty, [.res ρ], rw_⟩ ∧ fpOf (ids ++ [0]) i b = ρ.fp) := by
    intro i b h
    rw [nth_append] at h
    split at h
    · rename_i hi
      simp at h; subst h; subst hi
      exact .inr ⟨rfl, rfl, fpOf_res rfl⟩
    · have hil : i < ids.length := by rw [hI.len]; exact nth_lt h
      exact .inl ⟨hil, h, fpOf_ids hp hil⟩
  refine ⟨hI'.frm, by simp [hI.len], ?_, ?_, ?_⟩
  · intro i b h
    rcases hat i b h with ⟨hi, h, _⟩ | ⟨rfl, rfl, _⟩
    · exact (hI'.good i b h).ids hp hi
    · exact ⟨hR, hlt⟩
  · intro i j bi bj h1 h2 hij x hx hxj
    rcases hat i bi h1 with ⟨hi, g1, e1⟩ | ⟨rfl, rfl, e1⟩ <;> rcases hat j bj h2 with ⟨hj, g2, e2⟩ | ⟨rfl, rfl, e2⟩ <;> rw [e1] at hx <;> rw [e2] at hxj
    · exact hI.apart i j bi bj g1 g2 hij x hx hxj
    · have := (hI.good i bi g1).lt x hx; have := hnew x hxj; omega
    · have := (hI.good j bj g2).lt x hxj; have := hnew x hx; omega
    · exact hij rfl
  · intro i b h hr x hx
    rcases hat i b h with ⟨hi, h, e1⟩ | ⟨rfl, rfl, e1⟩ <;> rw [e1] at hx
    · exact hI.own i b h hr x hx
    · exact .inr (Nat.le_trans hI.frm.size (hnew x hx))

/-- make(map[K]V). -/
theorem n_makeMap {o : Oper} (ρ : Nat → Res) (ty : TypeId) (ho : o.op = .makeMap t none) (hd : dstOk c o.dst = true) (hl : mem.length = ids.length) (hfp : ∀ b, (ρ b).fp = [b]) (h : ∀ w b, w.heap[b]? = some (.map #[] 0) → (ρ b).R w)
    (hk : ∀ b, c.w0.heap.size ≤ b → satS c Q ⟨putF o.dst (.raw (.map (some b))) fr, mem ++ [⟨ty, [.res (ρ b)], true⟩], todo⟩ (ids ++ [0])) : satN c Q (.op o ⟨fr, mem, todo⟩) ids :=
  n_run hd fun ids' w ρ0 hp hI hρ => by
    obtain rfl := ext0 hp (by rw [hI.len, hl])
    have hf : Frm [] w (w.alloc (.map #[] 0)) := (Frm.refl [] w).alloc _
    refine ⟨.map (some w.heap.size), w.alloc (.map #[] 0), .raw (.map (some w.heap.size)), _, _, ?_, rfl, List.prefix_append _ _, hI.addR hf (ρ w.heap.size) ty true (h _ _ (MapKept.heap_alloc w _).1) (by rw [hfp]; simp) (by rw [hfp]; simp), hk _ hI.frm.size⟩
    unfold execOp
    simp [ho]
    rfl
/-- New blocks get names ahead of an operation or a call. -/
theorem n_opE {o : Oper} (h : ∀ ids', ids <+: ids' → ids'.length = mem.length → satN c Q (.op o ⟨fr, mem, todo⟩) ids') : satN c Q (.op o ⟨fr, mem, todo⟩) ids :=
  satN_iff.2 fun ids' w a QE hp hI hF => satN_iff.1 (h ids' hp hI.len) ids' w a QE (List.prefix_refl _) hI hF
theorem n_op1 {o : Oper} (hl : mem.length = ids.length + 1) (h : ∀ n, satN c Q (.op o ⟨fr, mem, todo⟩) (ids ++ [n])) : satN c Q (.op o ⟨fr, mem, todo⟩) ids :=
  n_opE fun ids' hp hl' => by
    obtain ⟨n, rfl⟩ := ext1 hp (by rw [hl', hl])
    exact h n
theorem n_op2 {o : Oper} (hl : mem.length = ids.length + 2) (h : ∀ n m, satN c Q (.op o ⟨fr, mem, todo⟩) (ids ++ [n, m])) : satN c Q (.op o ⟨fr, mem, todo⟩) ids :=
  n_opE fun ids' hp hl' => by
    obtain ⟨n, m, rfl⟩ := ext2 hp (by rw [hl', hl])
    exact h n m
theorem n_callE {f : FuncId} {args : List SV} {dst : Option Nat} (h : ∀ ids', ids <+: ids' → ids'.length = mem.length → satN c Q (.call f args dst ⟨fr, mem, todo⟩) ids') : satN c Q (.call f args dst ⟨fr, mem, todo⟩) ids :=
  satN_iff.2 fun ids' w vs hp hI hv => satN_iff.1 (h ids' hp hI.len) ids' w vs (List.prefix_refl _) hI hv
theorem n_call1 {f : FuncId} {args : List SV} {dst : Option Nat} (hl : mem.length = ids.length + 1) (h : ∀ n, satN c Q (.call f args dst ⟨fr, mem, todo⟩) (ids ++ [n])) : satN c Q (.call f args dst ⟨fr, mem, todo⟩) ids :=
  n_callE fun ids' hp hl' => by
    obtain ⟨n, rfl⟩ := ext1 hp (by rw [hl', hl])
    exact h n
theorem n_call2 {f : FuncId} {args : List SV} {dst : Option Nat} (hl : mem.length = ids.length + 2) (h : ∀ n m, satN c Q (.call f args dst ⟨fr, mem, todo⟩) (ids ++ [n, m])) : satN c Q (.call f args dst ⟨fr, mem, todo⟩) ids :=
  n_callE fun ids' hp hl' => by
    obtain ⟨n, m, rfl⟩ := ext2 hp (by rw [hl', hl])
    exact h n m
end

/-! ### Keys -/
/-- Strings. -/
def strEnc (P : Program) (k : TypeId) (hk : P.underlying k = some .string) : KeyEnc P k ByteArray where
  ek s := .string s
  ok s := s.size ≤ maxLen
  key s hs := ⟨.string s.data.toList, by simp [keyOf, hk, mapKey, hs]⟩
  inj x y h := by injection h
/-- Numbers. -/
def intEnc (P : Program) (k : TypeId) (q : IntKind) (hk : P.underlying k = some (.int q)) : KeyEnc P k Int where
  ek n := .int q n
  ok n := (Lit.int q n).wf = true
  key n hn := ⟨_, Go.Maps.keyOf_int_mk hk hn⟩
  inj x y h := by injection h
end Go.Proofs.Ytfcbcgjgkleonaa
