/- A store through a pointer into a part of memory that is known by what holds of it. -/
import Derived.Test.YtfcbcgjgkleonaaMore
set_option linter.unusedVariables false
set_option linter.unusedSimpArgs false
namespace Go.Proofs.Ytfcbcgjgkleonaa
open Go.RowKit

theorem run_storeAt_raw {P : Program} {w : World} {t ty : TypeId} {n o k : Nat} {v : Value} {l : List Value} (hblk : Blk w n l.toArray ty) (hs : sizeB P t = some k) (hsz : v.cells.size = k) (h1 : v.cells.toList.all (·.oneCell') = true) (hle : o + k ≤ l.length) :
    ∃ w', (Instr.storeAt t (.pointer (some ⟨n, o, none⟩)) v).run P w = .ok () w' ∧ Frm [n] w w' ∧ Blk w' n (l.take o ++ v.cells.toList ++ l.drop (o + k)).toArray ty := by
  have hrun := run_storeCells_at (P := P) n o ty v.cells.toList 0 l.toArray w hblk (by simp [hsz]; omega) (fun u hu => by simpa using List.all_eq_true.1 h1 u hu)
  have hs' : (sizeOf t).run P w = .ok k w := sizeB_run (c := { P, N := 0, os := [], S := [], w0 := w }) hs
  refine ⟨_, by simp [Instr.storeAt, Instr.sureAddr, storeVar, hs', hsz]; exact hrun, ?_, ?_⟩
  · exact ⟨rfl, rfl, rfl, by simp, fun m _ hm => setRow_other w n m _ (by simpa using hm)⟩
  · have := setRow_heap w n l.toArray ((l.toArray.toList.take (o + 0) ++ v.cells.toList ++ l.toArray.toList.drop (o + 0 + v.cells.toList.length)).toArray) ty (0, 0) hblk
    simpa [Blk, hsz] using this

section
variable {c : Ctx} {Q : SExit → Fr → Mem → List Nat → World → Prop} {ids : List Nat} {w : World} {fr : Fr} {mem : Mem} {todo : List Task}
theorem add_mk (n k : Nat) : (⟨n, 0, none⟩ : Addr).add k = ⟨n, k, none⟩ := by unfold Addr.add; split <;> simp_all
theorem n_storeA {o : Oper} {t ty : TypeId} {xa xv : Operand} {n off k : Nat} {a : Addr} {l : List Value} {rv : SV} {v : Value} (i : Nat) {bl : SBlk} {ρ : Res} (ρ' : Res) (l' : List Value)
    (ho : o.op = .store t xa xv) (hd : dstOk c o.dst = true) (hx : ev fr xa = some (.raw (.pointer (some a)))) (ha : a = ⟨n, off, none⟩) (hv : ev fr xv = some rv) (hrv : den ids rv = some v) (hs : sizeB c.P t = some k) (hsz : v.cells.size = k) (h1 : v.cells.toList.all (·.oneCell') = true)
    (hb : nth mem i = some bl) (hres : resOf bl = some ρ) (hrw : bl.rw = true) (hin : n ∈ ρ.fp) (hB : ∀ w, ρ.R w → Blk w n l.toArray ty) (hle : off + k ≤ l.length) (hl' : l.take off ++ v.cells.toList ++ l.drop (off + k) = l')
    (hR : ∀ w w', ρ.R w → Frm [n] w w' → Blk w' n l'.toArray ty → ρ'.R w') (hfp : ∀ x ∈ ρ'.fp, x ∈ ρ.fp)
    (hk : satS c Q ⟨putF o.dst .undef fr, setCells mem i [.res ρ'], todo⟩ ids) : satN c Q (.op o ⟨fr, mem, todo⟩) ids :=
  n_runS hd fun ids' w ρ0 hp hI hρ => by
    subst ha
    have hx' := hρ xa _ hx
    simp only [den, Option.some.injEq] at hx'
    have hv' := hρ xv _ hv
    rw [den_mono hp _ _ hrv] at hv'
    simp only [Option.some.injEq] at hv'
    have hR0 := hI.res i hb hres
    obtain ⟨w', hrun, hf, hblk⟩ := run_storeAt_raw (P := c.P) (o := off) (hB w hR0) hs hsz h1 hle
    rw [hl'] at hblk
    refine ⟨w', _, ids', ?_, List.prefix_refl _, hI.updR (ρ' := ρ') i hb hres hrw (hf.mono (by simpa using hin)) (hR w w' hR0 hf hblk) (fun x hx => .inl (hfp x hx)) (fun x hx => Nat.lt_of_lt_of_le (hI.resLt i hb hres x (hfp x hx)) hf.size), satS_mono hp hk⟩
    unfold execOp
    simp [ho, ← hx', ← hv', hrun]
theorem n_storeP {o : Oper} {t ty : TypeId} {xa xv : Operand} {n off k : Nat} {l : List Value} {rv : SV} {v : Value} (i : Nat) {bl : SBlk} {ρ : Res} (ρ' : Res) (l' : List Value)
    (ho : o.op = .store t xa xv) (hd : dstOk c o.dst = true) (hx : ev fr xa = some (.raw (.pointer (some ⟨n, off, none⟩)))) (hv : ev fr xv = some rv) (hrv : den ids rv = some v) (hs : sizeB c.P t = some k) (hsz : v.cells.size = k) (h1 : v.cells.toList.all (·.oneCell') = true)
    (hb : nth mem i = some bl) (hres : resOf bl = some ρ) (hrw : bl.rw = true) (hin : n ∈ ρ.fp) (hB : ∀ w, ρ.R w → Blk w n l.toArray ty) (hle : off + k ≤ l.length) (hl' : l.take off ++ v.cells.toList ++ l.drop (off + k) = l')
    (hR : ∀ w w', ρ.R w → Frm [n] w w' → Blk w' n l'.toArray ty → ρ'.R w') (hfp : ∀ x ∈ ρ'.fp, x ∈ ρ.fp)
    (hk : satS c Q ⟨putF o.dst .undef fr, setCells mem i [.res ρ'], todo⟩ ids) : satN c Q (.op o ⟨fr, mem, todo⟩) ids :=
  n_runS hd fun ids' w ρ0 hp hI hρ => by
    have hx' := hρ xa _ hx
    simp only [den, Option.some.injEq] at hx'
    have hv' := hρ xv _ hv
    rw [den_mono hp _ _ hrv] at hv'
    simp only [Option.some.injEq] at hv'
    have hR0 := hI.res i hb hres
    obtain ⟨w', hrun, hf, hblk⟩ := run_storeAt_raw (P := c.P) (o := off) (hB w hR0) hs hsz h1 hle
    rw [hl'] at hblk
    refine ⟨w', _, ids', ?_, List.prefix_refl _, hI.updR (ρ' := ρ') i hb hres hrw (hf.mono (by simpa using hin)) (hR w w' hR0 hf hblk) (fun x hx => .inl (hfp x hx)) (fun x hx => Nat.lt_of_lt_of_le (hI.resLt i hb hres x (hfp x hx)) hf.size), satS_mono hp hk⟩
    unfold execOp
    simp [ho, ← hx', ← hv', hrun]
end
end Go.Proofs.Ytfcbcgjgkleonaa
