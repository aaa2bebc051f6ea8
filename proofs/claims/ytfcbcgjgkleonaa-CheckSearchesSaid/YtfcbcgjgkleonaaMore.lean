/- More of calls and operations: a call that changes a block and a part, a call that leaves a new part, the bytes of a string. -/
import Derived.Test.YtfcbcgjgkleonaaMap2
import Derived.Lib.ConvBytes
set_option linter.unusedVariables false
set_option linter.unusedSimpArgs false
set_option linter.unusedSectionVars false
namespace Go.Proofs.Ytfcbcgjgkleonaa
open Go.RowKit

section
variable {c : Ctx} {Q : SExit → Fr → Mem → List Nat → World → Prop} {ids : List Nat} {w : World} {fr : Fr} {mem : Mem} {todo : List Task}

theorem Inv.updBR (hI : Inv c w ids mem) {w' : World} (i j : Nat) {b b2 : SBlk} {n : Nat} {cs : List SV} {l : List Value} {ρ ρ' : Res} (hij : i ≠ j) (hb : nth mem i = some b) (hn : ids[i]? = some n) (hrw : wrB b = true) (hd : denL ids cs = some l)
    (hb2 : nth mem j = some b2) (hres : resOf b2 = some ρ) (hrw2 : b2.rw = true) (hf : Frm (n :: ρ.fp) w w') (hw : Blk w' n l.toArray b.ty) (hR : ρ'.R w') (hfp : ∀ x ∈ ρ'.fp, x ∈ ρ.fp ∨ w.heap.size ≤ x) (hlt : ∀ x ∈ ρ'.fp, x < w'.heap.size) :
    Inv c w' ids (setNth (setNth mem i { b with cells := cs }) j { b2 with cells := [.res ρ'] }) := by
  obtain ⟨hrw, hr⟩ := wrB_eq hrw
  have hown := hI.own _ _ hb hrw n (by rw [fpOf_cells hr hn]; simp)
  have hr' : resOf { b with cells := cs } = none := resOf_cells hd
  have hr2' : resOf { b2 with cells := [SV.res ρ'] } = some ρ' := rfl
  have key : ∀ k b', nth (setNth (setNth mem i { b with cells := cs }) j { b2 with cells := [.res ρ'] }) k = some b' → (k = j ∧ b' = { b2 with cells := [.res ρ'] }) ∨ (k ≠ j ∧ k = i ∧ b' = { b with cells := cs }) ∨ (k ≠ j ∧ k ≠ i ∧ nth mem k = some b') := by
    intro k b' hk
    rw [nth_setNth] at hk
    split at hk
    · rename_i h1
      rw [if_pos (by rw [setNth_len]; exact nth_lt hb2)] at hk
      exact .inl ⟨h1.symm, by simpa using hk.symm⟩
    · rename_i h1
      rw [nth_setNth] at hk
      split at hk
      · rename_i h2
        rw [if_pos (nth_lt hb)] at hk
        exact .inr (.inl ⟨fun e => h1 e.symm, h2.symm, by simpa using hk.symm⟩)
      · rename_i h2
        exact .inr (.inr ⟨fun e => h1 e.symm, fun e => h2 e.symm, hk⟩)
  refine hI.step hf (by
    intro x hx
    simp at hx
    rcases hx with rfl | hx
    · exact hown
    · exact hI.own j b2 hb2 hrw2 x (by rw [fpOf_res hres]; exact hx)) (by simp [setNth_len]) ?_ ?_
  · intro k b' hk
    rcases key k b' hk with ⟨rfl, rfl⟩ | ⟨_, rfl, rfl⟩ | ⟨h1, h2, h3⟩
    · refine ⟨b2, hb2, rfl, ?_, .inr ⟨hR, hlt⟩⟩
      rw [fpOf_res hr2', fpOf_res hres]
      exact hfp
    · refine ⟨b, hb, rfl, ?_, .inr (.mk hn hd hw)⟩
      rw [fpOf_cells hr' hn, fpOf_cells hr hn]
      exact fun x hx => .inl hx
    · refine ⟨b', h3, rfl, fun x hx => .inl hx, .inl ⟨rfl, fun x hx => ?_⟩⟩
      have e1 := hI.apart k i b' b h3 hb h2 x hx
      have e2 := hI.apart k j b' b2 h3 hb2 h1 x hx
      rw [fpOf_cells hr hn] at e1
      rw [fpOf_res hres] at e2
      simp at e1 ⊢
      exact ⟨e1, e2⟩
  · intro k k' bj bk hj hk hjk x hx hxs hxk
    rcases key k bj hj with ⟨rfl, rfl⟩ | ⟨_, rfl, rfl⟩ | ⟨h1, h2, h3⟩
    · rcases key k' bk hk with ⟨rfl, rfl⟩ | ⟨_, rfl, rfl⟩ | ⟨h1, h2, h3⟩
      · exact hjk rfl
      · rw [fpOf_cells hr' hn] at hxk
        have := (hI.good k' b hb).lt x (by rw [fpOf_cells hr hn]; exact hxk)
        omega
      · have := (hI.good k' bk h3).lt x hxk
        omega
    · rw [fpOf_cells hr' hn] at hx
      have := (hI.good k b hb).lt x (by rw [fpOf_cells hr hn]; exact hx)
      omega
    · have := (hI.good k bj h3).lt x hx
      omega

/-- A call that changes the block i and the part j. -/
theorem n_callBR {f : FuncId} {args : List SV} {vs : List Value} {dst : Option Nat} (i j : Nat) (r : SV) (cs : List SV) {v : Value} {b b2 : SBlk} {n : Nat} {l : List Value} {ρ : Res} (ρ' : Res) (hd : dstOk c dst = true) (hv : denL ids args = some vs) (hr : den ids r = some v)
    (hij : Nat.beq i j = false) (hb : nth mem i = some b) (hn : ids[i]? = some n) (hrw : wrB b = true) (hc : denL ids cs = some l) (hb2 : nth mem j = some b2) (hres : resOf b2 = some ρ) (hrw2 : b2.rw = true)
    (h : ∀ ids' w, ids <+: ids' → Inv c w ids' mem → ρ.R w → Calls c.P f vs.toArray w (fun e w2 => e = .returned v ∧ Frm (n :: ρ.fp) w w2 ∧ Blk w2 n l.toArray b.ty ∧ ρ'.R w2 ∧ (∀ x ∈ ρ'.fp, x ∈ ρ.fp ∨ w.heap.size ≤ x) ∧ ∀ x ∈ ρ'.fp, x < w2.heap.size))
    (hk : satS c Q ⟨putF dst r fr, setCells (setCells mem i cs) j [.res ρ'], todo⟩ ids) : satN c Q (.call f args dst ⟨fr, mem, todo⟩) ids := by
  have hne : i ≠ j := fun e => by subst e; simp at hij
  refine n_call hd hv fun ids' w hp hI => (h ids' w hp hI (hI.res j hb2 hres)).mono ?_
  rintro e w2 ⟨he, hf, hw, hR, hfp, hlt⟩
  refine ⟨r, v, _, ids', he, den_mono hp _ _ hr, List.prefix_refl _, ?_, satS_mono hp hk⟩
  rw [setCells_eq (b := b2) (by rw [nth_setCells_ne hne]; exact hb2), setCells_eq hb]
  exact hI.updBR i j hne hb (by obtain ⟨t, rfl⟩ := hp; rw [List.getElem?_append_left (List.getElem?_eq_some_iff.1 hn).1]; exact hn) hrw (denL_mono hp _ _ hc) hb2 hres hrw2 hf hw hR hfp hlt

/-- A call that leaves a new part; Y: what it leaves open. -/
theorem n_callN {Y : Type} {f : FuncId} {args : List SV} {vs : List Value} {dst : Option Nat} (ρ' : Y → Res) (ty : TypeId) (r : Y → SV) (v : Y → Value) (p : Y → Prop) (hd : dstOk c dst = true) (hl : mem.length = ids.length) (hv : denL ids args = some vs) (hr : ∀ y, den (ids ++ [0]) (r y) = some (v y))
    (h : ∀ w, Inv c w ids mem → Calls c.P f vs.toArray w (fun e w2 => ∃ y, e = .returned (v y) ∧ p y ∧ Frm [] w w2 ∧ (ρ' y).R w2 ∧ (∀ x ∈ (ρ' y).fp, w.heap.size ≤ x) ∧ ∀ x ∈ (ρ' y).fp, x < w2.heap.size))
    (hk : ∀ y, p y → (∀ x ∈ (ρ' y).fp, c.w0.heap.size ≤ x) → satS c Q ⟨putF dst (r y) fr, mem ++ [⟨ty, [.res (ρ' y)], true⟩], todo⟩ (ids ++ [0])) : satN c Q (.call f args dst ⟨fr, mem, todo⟩) ids := by
  refine n_call hd hv fun ids' w hp hI => ?_
  obtain rfl := ext0 hp (by rw [hI.len, hl])
  refine (h w hI).mono ?_
  rintro e w2 ⟨y, he, hpy, hf, hR, hnew, hlt⟩
  exact ⟨r y, v y, _, _, he, hr y, List.prefix_append _ _, hI.addR hf (ρ' y) ty true hR hnew hlt, hk y hpy fun x hx => Nat.le_trans hI.frm.size (hnew x hx)⟩

/-! ### The bytes of a string -/
theorem Frm.bytes (w : World) (e : TypeId) (s : ByteArray) : Frm [] w (Lib.bytesWorld w e s) :=
  ⟨rfl, rfl, rfl, by rw [Lib.bytesWorld_size]; omega, fun k hk _ => Lib.bytesWorld_at_old w e s k hk⟩
/-- What a walk reads of them. -/
def BytesAt (w : World) (a : Addr) (s : ByteArray) : Prop := ∀ j, j < s.size → w.cell? (a.add j) = some (.int .u8 (s.data.toList.getD j 0).toNat)
theorem BytesAt.frm {w w' : World} {a : Addr} {s : ByteArray} (h : BytesAt w a s) (hf : Frm [] w w') (ha : a.block < w.heap.size) : BytesAt w' a s := fun j hj => by
  rw [← h j hj]
  simp only [World.cell?, block_add]
  rw [hf.block _ ha (by simp)]
def bytesRes (a : Addr) (s : ByteArray) : Res where
  fp := [a.block]
  R w := BytesAt w a s
  stable := by
    intro w w' hk h j hj
    rw [← h j hj]
    simp only [World.cell?, block_add]
    rw [hk _ (by simp)]
/-- []byte(s). -/
theorem n_bytes {o : Oper} {src dst e : TypeId} {x : Operand} {s : ByteArray} {u : TypeDesc} (ho : o.op = .convert src dst x) (hd : dstOk c o.dst = true) (hl : mem.length = ids.length) (hs : c.P.underlying src = some u) (hds : c.P.underlying dst = some (.slice e)) (he : c.P.underlying e = some (.int .u8))
    (hx : ev fr x = some (.str s))
    (hk : ∀ b cap, c.w0.heap.size ≤ b → satS c Q ⟨putF o.dst (.raw (.slice (some ⟨b, 0, none⟩) s.size cap)) fr, mem ++ [⟨e, [.res (bytesRes ⟨b, 0, none⟩ s)], true⟩], todo⟩ (ids ++ [0])) : satN c Q (.op o ⟨fr, mem, todo⟩) ids :=
  n_run hd fun ids' w ρ0 hp hI hρ => by
    obtain rfl := ext0 hp (by rw [hI.len, hl])
    have hx' := hρ x _ hx
    simp only [den, Option.some.injEq] at hx'
    refine ⟨_, _, .raw (.slice (some ⟨w.heap.size, 0, none⟩) s.size (grownCap w s.size 0 e)), _, _, ?_, rfl, List.prefix_append _ _, hI.addR (Frm.bytes w e s) (bytesRes ⟨w.heap.size, 0, none⟩ s) e true ?_ (by simp [bytesRes]) (by simp [bytesRes, Lib.bytesWorld_size]), hk _ _ hI.frm.size⟩
    · unfold execOp
      simp only [ho, ← hx']
      simp only [Sem.run_bind, Sem.run_pure, Result.andThen_ok, Lib.run_convert_string_bytes w src dst e s hs hds he]
    · intro j hj
      have := Lib.bytesWorld_cell w e s j hj
      unfold Addr.add
      split
      · rename_i h0; subst h0; exact this
      · simpa using this

theorem MapOf.empty {P : Program} {k : TypeId} {κ ν : Type} [DecidableEq κ] (E : KeyEnc P k κ) (ev : ν → Value) {w : World} {b : Nat} (h : w.heap[b]? = some (.map #[] 0)) : MapOf E ev w b [] := ⟨⟨#[], 0, h, MapKept.stamped_empty 0, rfl⟩, by simp⟩
/-! ### Names of blocks at the end -/
theorem ext3 {ids ids' : List Nat} (h : ids <+: ids') (hl : ids'.length = ids.length + 3) : ∃ a b d, ids' = ids ++ [a, b, d] := by
  obtain ⟨r, rfl⟩ := h
  match r, hl with
  | [a, b, d], _ => exact ⟨a, b, d, rfl⟩
  | [], hl => simp at hl
  | [_], hl => simp at hl
  | [_, _], hl => simp at hl
  | _ :: _ :: _ :: _ :: _, hl => simp at hl
theorem ext4 {ids ids' : List Nat} (h : ids <+: ids') (hl : ids'.length = ids.length + 4) : ∃ a b d e, ids' = ids ++ [a, b, d, e] := by
  obtain ⟨r, rfl⟩ := h
  match r, hl with
  | [a, b, d, e], _ => exact ⟨a, b, d, e, rfl⟩
  | [], hl => simp at hl
  | [_], hl => simp at hl
  | [_, _], hl => simp at hl
  | [_, _, _], hl => simp at hl
  | _ :: _ :: _ :: _ :: _ :: _, hl => simp at hl
theorem Inv.new_at (hI : Inv c w ids mem) (i : Nat) {b : SBlk} {n : Nat} (hb : nth mem i = some b) (hn : ids[i]? = some n) (hr : resOf b = none) (hrw : b.rw = true) (hS : n ∉ c.S) : c.w0.heap.size ≤ n :=
  (hI.own i b hb hrw n (by rw [fpOf_cells hr hn]; simp)).resolve_left hS
theorem Inv.ne_at (hI : Inv c w ids mem) (i j : Nat) {b b2 : SBlk} {n m : Nat} (hij : i ≠ j) (hb : nth mem i = some b) (hn : ids[i]? = some n) (hr : resOf b = none) (hb2 : nth mem j = some b2) (hm : ids[j]? = some m) (hr2 : resOf b2 = none) : n ≠ m := fun e => by
  have := hI.apart i j b b2 hb hb2 hij n (by rw [fpOf_cells hr hn]; simp)
  rw [fpOf_cells hr2 hm] at this
  simp [e] at this
theorem Inv.ne_res (hI : Inv c w ids mem) (i j : Nat) {b b2 : SBlk} {n : Nat} {ρ : Res} (hij : i ≠ j) (hb : nth mem i = some b) (hn : ids[i]? = some n) (hr : resOf b = none) (hb2 : nth mem j = some b2) (hr2 : resOf b2 = some ρ) : n ∉ ρ.fp := fun e => by
  have := hI.apart i j b b2 hb hb2 hij n (by rw [fpOf_cells hr hn]; simp)
  rw [fpOf_res hr2] at this
  exact this e
theorem Inv.res_res (hI : Inv c w ids mem) (i j : Nat) {b b2 : SBlk} {ρ σ : Res} (hij : i ≠ j) (hb : nth mem i = some b) (hr : resOf b = some ρ) (hb2 : nth mem j = some b2) (hr2 : resOf b2 = some σ) : ∀ x ∈ ρ.fp, x ∉ σ.fp := fun x hx => by
  have := hI.apart i j b b2 hb hb2 hij x (by rw [fpOf_res hr]; exact hx)
  rwa [fpOf_res hr2] at this
theorem Inv.res_new (hI : Inv c w ids mem) (i : Nat) {b : SBlk} {ρ : Res} (hb : nth mem i = some b) (hr : resOf b = some ρ) (hrw : b.rw = true) (hS : ∀ x ∈ ρ.fp, x ∉ c.S) : ∀ x ∈ ρ.fp, c.w0.heap.size ≤ x := fun x hx =>
  (hI.own i b hb hrw x (by rw [fpOf_res hr]; exact hx)).resolve_left (hS x hx)

/-! ### Two parts as one -/
def Res.both (ρ σ : Res) : Res where
  fp := ρ.fp ++ σ.fp
  R w := ρ.R w ∧ σ.R w ∧ ∀ x ∈ ρ.fp, x ∉ σ.fp
  stable := fun w w' hk h => ⟨ρ.stable w w' (fun k hx => hk k (by simp [hx])) h.1, σ.stable w w' (fun k hx => hk k (by simp [hx])) h.2.1, h.2.2⟩
def Res.none : Res where
  fp := []
  R _ := True
  stable := fun _ _ _ h => h
/-- The part j goes into the part i. -/
theorem Inv.absorb (hI : Inv c w ids mem) (i j : Nat) {b b2 : SBlk} {ρ σ : Res} (hij : i ≠ j) (hb : nth mem i = some b) (hr : resOf b = some ρ) (hb2 : nth mem j = some b2) (hr2 : resOf b2 = some σ) (hrw : b.rw = true) (hrw2 : b2.rw = true) :
    Inv c w ids (setCells (setCells mem i [.res (ρ.both σ)]) j [.res Res.none]) := by
  rw [setCells_eq (b := b2) (by rw [nth_setCells_ne hij]; exact hb2), setCells_eq hb]
  have key : ∀ k b', nth (setNth (setNth mem i { b with cells := [.res (ρ.both σ)] }) j { b2 with cells := [.res Res.none] }) k = some b' → (k = j ∧ b' = { b2 with cells := [.res Res.none] }) ∨ (k ≠ j ∧ k = i ∧ b' = { b with cells := [.res (ρ.both σ)] }) ∨ (k ≠ j ∧ k ≠ i ∧ nth mem k = some b') := by
    intro k b' hk
    rw [nth_setNth] at hk
    split at hk
    · rename_i h1
      rw [if_pos (by rw [setNth_len]; exact nth_lt hb2)] at hk
      exact .inl ⟨h1.symm, by simpa using hk.symm⟩
    · rename_i h1
      rw [nth_setNth] at hk
      split at hk
      · rename_i h2
        rw [if_pos (nth_lt hb)] at hk
        exact .inr (.inl ⟨fun e => h1 e.symm, h2.symm, by simpa using hk.symm⟩)
      · rename_i h2
        exact .inr (.inr ⟨fun e => h1 e.symm, fun e => h2 e.symm, hk⟩)
  have f1 : ∀ i, fpOf ids i { b with cells := [SV.res (ρ.both σ)] } = ρ.fp ++ σ.fp := fun i => by rw [fpOf_res (r := ρ.both σ) rfl]; rfl
  have f2 : ∀ i, fpOf ids i { b2 with cells := [SV.res Res.none] } = [] := fun i => by rw [fpOf_res (r := Res.none) rfl]; rfl
  refine ⟨hI.frm, by simp [setNth_len, hI.len], ?_, ?_, ?_⟩
  · intro k b' hk
    rcases key k b' hk with ⟨rfl, rfl⟩ | ⟨_, rfl, rfl⟩ | ⟨_, _, hk⟩
    · exact ⟨trivial, by intro x hx; exact absurd hx (by simp [Res.none])⟩
    · refine ⟨⟨hI.res k hb hr, hI.res j hb2 hr2, hI.res_res k j hij hb hr hb2 hr2⟩, fun x hx => ?_⟩
      rcases List.mem_append.1 hx with hx | hx
      · exact hI.resLt k hb hr x hx
      · exact hI.resLt j hb2 hr2 x hx
    · exact hI.good k b' hk
  · intro k k' bk bk' hk hk' hkk x hx hx'
    rcases key k bk hk with ⟨rfl, rfl⟩ | ⟨n1, rfl, rfl⟩ | ⟨n1, n2, h3⟩
    · rw [f2] at hx; simp at hx
    · rcases key k' bk' hk' with ⟨rfl, rfl⟩ | ⟨_, rfl, rfl⟩ | ⟨m1, m2, h3'⟩
      · rw [f2] at hx'; simp at hx'
      · exact hkk rfl
      · rw [f1] at hx
        rcases List.mem_append.1 hx with hx | hx
        · exact hI.apart k k' b bk' hb h3' hkk x (by rw [fpOf_res hr]; exact hx) hx'
        · exact hI.apart j k' b2 bk' hb2 h3' (fun e => m1 e.symm) x (by rw [fpOf_res hr2]; exact hx) hx'
    · rcases key k' bk' hk' with ⟨rfl, rfl⟩ | ⟨_, rfl, rfl⟩ | ⟨m1, m2, h3'⟩
      · rw [f2] at hx'; simp at hx'
      · rw [f1] at hx'
        rcases List.mem_append.1 hx' with hx' | hx'
        · exact hI.apart k k' bk b h3 hb hkk x hx (by rw [fpOf_res hr]; exact hx')
        · exact hI.apart k j bk b2 h3 hb2 n1 x hx (by rw [fpOf_res hr2]; exact hx')
      · exact hI.apart k k' bk bk' h3 h3' hkk x hx hx'
  · intro k b' hk hrw' x hx
    rcases key k b' hk with ⟨rfl, rfl⟩ | ⟨_, rfl, rfl⟩ | ⟨_, _, hk⟩
    · rw [f2] at hx; simp at hx
    · rw [f1] at hx
      rcases List.mem_append.1 hx with hx | hx
      · exact hI.own k b hb hrw x (by rw [fpOf_res hr]; exact hx)
      · exact hI.own j b2 hb2 hrw2 x (by rw [fpOf_res hr2]; exact hx)
    · exact hI.own k b' hk hrw' x hx
/-- Memory told otherwise ahead of an operation. -/
theorem n_opI {o : Oper} (mem' : Mem) (hm : ∀ ids' w, ids <+: ids' → Inv c w ids' mem → Inv c w ids' mem') (h : satN c Q (.op o ⟨fr, mem', todo⟩) ids) : satN c Q (.op o ⟨fr, mem, todo⟩) ids :=
  satN_iff.2 fun ids' w a QE hp hI hF => satN_iff.1 h ids' w a QE hp (hm ids' w hp hI) hF
end
end Go.Proofs.Ytfcbcgjgkleonaa
