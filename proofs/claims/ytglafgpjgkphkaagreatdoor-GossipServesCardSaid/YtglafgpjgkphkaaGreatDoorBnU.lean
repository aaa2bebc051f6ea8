/- Cells that are read only. Answers that are kept: slices that grow beside what they were; parts of a family plucked out and put back. -/
import Derived.Test.YtglafgpjgkphkaaGreatDoorBs
import Derived.Test.YtglafgpjgkphkaaGreatDoorGath
namespace Go.Proofs.YtglafgpjgkphkaaGreatDoor
section
set_option linter.unusedVariables false
set_option linter.unusedSimpArgs false
open Go.RowKit

/-- (No cells: no block.) -/
def readRes (o : Option Addr) (xs : List Value) : Res where
  fp := match o with | some a => (if xs.isEmpty then [] else [a.block]) | none => []
  R w := ∀ j u, xs[j]? = some u → ∃ a, o = some a ∧ w.cell? (a.add j) = some u
  stable := fun w w' hk h j u hu => by
    obtain ⟨a, ha, hc⟩ := h j u hu
    subst ha
    refine ⟨a, rfl, ?_⟩
    rw [← hc]
    simp only [World.cell?, block_add]
    rw [hk _ (by
      have h0 : xs.isEmpty = false := by cases xs with
        | nil => simp at hu
        | cons _ _ => rfl
      simp [h0])]
theorem rd_fp {a : Addr} {xs : List Value} {x : Nat} (h : x ∈ (readRes (some a) xs).fp) : x = a.block := by
  simp only [readRes] at h
  split at h
  · cases h
  · simpa using h
theorem rd_lt {o : Option Addr} {xs : List Value} {w : World} (h : (readRes o xs).R w) : ∀ x ∈ (readRes o xs).fp, x < w.heap.size := by
  intro x hx
  cases o with
  | none => cases hx
  | some a =>
    obtain rfl := rd_fp hx
    cases xs with
    | nil => cases hx
    | cons u xs =>
      obtain ⟨a', e, hc⟩ := h 0 u rfl
      simp at e; subst e
      rcases Nat.lt_or_ge a.block w.heap.size with h' | h'
      · exact h'
      · have e0 : (a.add 0) = a := by simp [Addr.add]
        rw [e0] at hc
        simp [World.cell?, Array.getElem?_eq_none h'] at hc
theorem rd_inR {o : Option Addr} {xs ys : List Value} {x : Nat} {e : TypeId} {size n cap : Nat} (h : x ∈ (readRes o xs).fp) : x ∈ (rowRes e size o n cap ys).fp := by
  cases o with
  | none => cases h
  | some a => obtain rfl := rd_fp h; simp [rowRes]
theorem rd_inC {b : Nat} {xs l : List Value} {x : Nat} {t : TypeId} (h : x ∈ (readRes (some ⟨b, 0, none⟩) xs).fp) : x ∈ (cellsRes b l t).fp := by
  obtain rfl := rd_fp h; simp [cellsRes]
section
variable {α : Type} {f : α → List Value} {size : Nat} {o : Option Addr} {a : Addr} {L : List α} {w : World}
theorem rd_some (hf : ∀ x, (f x).length = size) (h0 : 0 < size) (h : (readRes o (L.flatMap f)).R w) (hn : 0 < L.length) : ∃ a, o = some a := by
  cases L with
  | nil => simp at hn
  | cons x L =>
    have hl : 0 < (f x).length := by rw [hf]; exact h0
    have hx : (f x)[0]? = some (f x)[0] := List.getElem?_eq_getElem hl
    obtain ⟨a, ha, _⟩ := h 0 (f x)[0] (by rw [List.flatMap_cons, List.getElem?_append_left (by rw [hf]; exact h0)]; exact hx)
    exact ⟨a, ha⟩
theorem rd_at (hf : ∀ x, (f x).length = size) (h : (readRes (some a) (L.flatMap f)).R w) {i : Nat} {x : α} (hx : L[i]? = some x) {j : Nat} (hj : j < size) {u : Value} (hu : (f x)[j]? = some u) {ad : Addr} (had : ad = a.add (i * size + j)) : w.cell? ad = some u := by
  obtain ⟨a', ha, hc⟩ := h (i * size + j) u ((flat_at hf hx hj).trans hu)
  simp at ha; subst ha
  rw [had]; exact hc
theorem rd_of_row {e : TypeId} {n cap : Nat} {xs : List Value} (h : (rowRes e size o n cap xs).R w) : (readRes o xs).R w := by
  intro j u hu
  rcases h.2 with ⟨h1, h2⟩ | ⟨g, cap', cur, h1, _⟩
  · have := h.1
    rw [h2] at this
    simp at this
    subst this; simp at hu
  · injection h1 with h1
    subst h1
    exact ⟨_, rfl, rowRes_cell h hu⟩
theorem rd_take {xs : List Value} (h : (readRes o xs).R w) (n : Nat) : (readRes o (xs.take n)).R w := fun j u hu => by
  rw [List.getElem?_take] at hu
  split at hu
  · exact h j u hu
  · cases hu
end
end
section
set_option linter.unusedVariables false
set_option linter.unusedSimpArgs false
open Go.RowKit

/-! ### append, and what becomes of the old row -/
theorem run_append_keep {P : Program} (w : World) (t ty e : TypeId) (i : TypeInfo) (z : Value) (size bytes : Nat) (ht : P.underlying t = some (.slice e)) (hi : P.info? e = some i) (hz : i.zero = some z)
    (hsize : i.size = size) (hby : i.bytes = bytes) (hzs : z.cells.size = size) (hsz : 0 < size)
    (o : Option Addr) (n cap : Nat) (xs : List Value) (hown : w.ownsRow 0 e size (.slice o n cap) n xs)
    (a : Addr) (m c : Nat) (hm0 : 0 < m) (news : List Value) (hl : news.length = m * size) (hnews : ∀ j u, news[j]? = some u → w.cell? (a.add j) = some u) (h1 : ∀ u ∈ news, u.oneCell' = true)
    (h63 : n + m ≤ maxLen) (hbytes : (n + m) * bytes ≤ 140737488355328) :
    ∃ g cap' w', (Builtin.append_ #[t, t] ty #[.slice o n cap, .slice (some a) m c]).run P w = .ok (.slice (some ⟨g, 0, none⟩) (n + m) cap') w' ∧ w'.ownsRow 0 e size (.slice (some ⟨g, 0, none⟩) (n + m) cap') (n + m) (xs ++ news) ∧
      ((o = some ⟨g, 0, none⟩ ∧ w.grownBy w' (some g)) ∨ (g = w.heap.size ∧ g < w'.heap.size ∧ w.grownBy w' none)) := by
  subst hsize
  subst hby
  have hsmall : n + m ≤ 9223372036854775807 := by simp only [maxLen] at h63; omega
  have hlen : (xs ++ news).length = (n + m) * i.size := by rw [List.length_append, hown.1, hl, Nat.add_mul]
  have grown : ∀ (old : Nat), old < n + m → 
      (w.drew.alloc (.cells (xs.toArray ++ news.toArray ++ Builtin.zeroCells z.cells (grownCap w (n + m) old e - (n + m))) e)).ownsRow 0 e i.size
        (.slice (some ⟨w.heap.size, 0, none⟩) (n + m) (grownCap w (n + m) old e)) (n + m) (xs ++ news) ∧
      w.grownBy (w.drew.alloc (.cells (xs.toArray ++ news.toArray ++ Builtin.zeroCells z.cells (grownCap w (n + m) old e - (n + m))) e)) none := by
    intro old ho
    have hge := grownCap_ge w (n + m) old e
    have hcm : grownCap w (n + m) old e ≤ maxLen := grownCap_le_maxLen w (n + m) old e h63
    refine ⟨⟨hlen, .inr ⟨w.heap.size, _, _, rfl, Nat.zero_le _, _root_.Go.heap_alloc_new w.drew _, hge, hcm, ?_, ?_⟩⟩, ⟨rfl, rfl, rfl, by simp, fun k hk _ => _root_.Go.heap_alloc_old w.drew _ hk⟩⟩
    · simp only [Array.size_append, List.size_toArray, size_zeroCells, hzs, hown.1, hl, ← Nat.add_mul]
      congr 1
      omega
    · simp only [Array.toList_append, List.append_assoc]
      rw [← List.append_assoc, ← hlen]
      exact List.take_left
  rcases hown.2 with ⟨he, rfl⟩ | ⟨g, cap', cur, he, hbg, hg, hnc, hcm, hcs, htake⟩
  · simp only [Value.slice.injEq] at he
    obtain ⟨rfl, _, rfl⟩ := he
    have hx : xs = [] := List.eq_nil_of_length_eq_zero (by simpa using hown.1)
    subst hx
    have hr := run_append_nil (P := P) w t ty e i z ht hi hz a m c news hl hnews (by omega) (by omega) (by have hb := hbytes; simp only [Nat.zero_add] at hb; omega)
    have hgr := grown 0 (by omega)
    simp only [Nat.zero_add, List.nil_append, Array.empty_append] at hgr ⊢
    exact ⟨_, _, _, hr, hgr.1, .inr ⟨rfl, by simp, hgr.2⟩⟩
  · simp only [Value.slice.injEq, true_and] at he
    obtain ⟨rfl, rfl⟩ := he
    by_cases hroom : n + m ≤ cap
    · have hfit : n * i.size + news.length ≤ cur.size := by rw [hl, hcs, ← Nat.add_mul]; exact Nat.mul_le_mul_right _ hroom
      have hr := run_append_room (P := P) w t ty e i ht hi g n cap cur hg a m c news hl hnews h1 hroom hfit
      refine ⟨_, _, _, hr, ⟨hlen, .inr ⟨g, cap, _, rfl, hbg, setRow_heap w g cur _ e _ hg, hroom, hcm, ?_, ?_⟩⟩, .inl ⟨rfl, ⟨rfl, rfl, rfl, by simp, fun k _ hk => setRow_other w g k _ (fun e => hk (by simp [e]))⟩⟩⟩
      · simp only [List.size_toArray, List.length_append, List.length_take, List.length_drop, Array.length_toList]
        omega
      · rw [htake, ← hlen]
        exact List.take_left
    · have holds : ∀ j u, xs[j]? = some u → w.cell? ((⟨g, 0, none⟩ : Addr).add j) = some u := hown.cells (g := g) rfl
      have hr := run_append_grow (P := P) w t ty e i z ht hi hz ⟨g, 0, none⟩ n cap xs hown.1 holds a m c news hl hnews (by omega) (by omega) (growslice_fits (by omega) hbytes)
      have hgr := grown cap (by omega)
      exact ⟨_, _, _, hr, hgr.1, .inr ⟨rfl, by simp, hgr.2⟩⟩

/-- Cells that are read only, of several rows. -/
def rdsRes (G : List (Option Addr × List Value)) : Res where
  fp := G.flatMap fun x => (readRes x.1 x.2).fp
  R w := ∀ x ∈ G, (readRes x.1 x.2).R w
  stable := fun w w' hk h x hx => (readRes x.1 x.2).stable w w' (fun k hk' => hk k (List.mem_flatMap.2 ⟨x, hx, hk'⟩)) (h x hx)
theorem rds_lt {G : List (Option Addr × List Value)} {w : World} (h : (rdsRes G).R w) : ∀ x ∈ (rdsRes G).fp, x < w.heap.size := by
  intro x hx
  obtain ⟨y, hy, hx⟩ := List.mem_flatMap.1 hx
  exact rd_lt (h y hy) x hx
abbrev growRes (e : TypeId) (size : Nat) (o : Option Addr) (n cap : Nat) (xs : List Value) (G : List (Option Addr × List Value)) : Res := (rdsRes G).both (rowRes e size o n cap xs)

section
variable {c : Ctx} {Q : SExit → Fr → Mem → List Nat → World → Prop} {ids : List Nat} {w : World} {fr : Fr} {mem : Mem} {todo : List Task}
/-- The row grows, in its place or in another; what it was is still there. -/
theorem n_appendK {o : Oper} {t e te : TypeId} {x y : Operand} {oa : Option Addr} {n cap m mc j size bytes : Nat} {xs nv xs' : List Value} {bj : SBlk} {it : TypeInfo} {z : Value} {G : List (Option Addr × List Value)} (i : Nat)
    (ho : o.op = .call { callee := .builtin .append, args := #[x, y], argTypes := #[t, t] }) (hd : dstOk c o.dst = true) (hu : sliceElem c.P t = some e) (hit : c.P.info? e = some it) (hz : it.zero = some z) (hsz : it.size = size) (hby : it.bytes = bytes) (hzs : z.cells.size = size) (hs0 : 0 < size)
    (hx : ev fr x = some (.raw (.slice oa n cap))) (hy : ev fr y = some (.sl j 0 m mc)) (hb : nth mem i = some ⟨te, [.res (growRes e size oa n cap xs G)], true⟩) (hbj : blkAt mem j = some bj) (hnews : denL ids bj.cells = some nv) (hlen : nv.length = m * size) (hm : 0 < m) (h1 : ∀ u ∈ nv, u.oneCell' = true)
    (h63 : n + m ≤ 9223372036854775807) (hbytes : (n + m) * bytes ≤ 140737488355328) (hxs : xs ++ nv = xs')
    (hk : ∀ g cap' G', (oa = some ⟨g, 0, none⟩ ∧ G' = G) ∨ G' = (oa, xs) :: G → satS c Q ⟨putF o.dst (.raw (.slice (some ⟨g, 0, none⟩) (n + m) cap')) fr, setCells mem i [.res (growRes e size (some ⟨g, 0, none⟩) (n + m) cap' xs' G')], todo⟩ ids) : satN c Q (.op o ⟨fr, mem, todo⟩) ids := by
  subst hxs
  refine n_run hd fun ids' w ρ hp hI hρ => ?_
  have hx' := hρ x _ hx
  have hy' := hρ y _ hy
  simp only [den, Option.some.injEq] at hx'
  obtain ⟨hG, hown, hap⟩ : (rdsRes G).R w ∧ (rowRes e size oa n cap xs).R w ∧ ∀ x ∈ (rdsRes G).fp, x ∉ (rowRes e size oa n cap xs).fp := hI.res i hb rfl
  obtain ⟨hbj1, hbj2⟩ := blkAt_eq hbj
  obtain ⟨q, l, hq, hl, hblk⟩ := hI.blk j bj hbj1 hbj2
  have hl' : l = nv := by
    have := denL_mono hp _ _ hnews
    rw [hl] at this; simpa using this
  subst hl'
  simp only [den, hq, Option.some.injEq] at hy'
  have hul : c.P.underlying t = some (.slice e) := by
    unfold sliceElem at hu
    split at hu
    · rename_i e' he; simp at hu; subst hu; exact he
    · cases hu
  have hcell : ∀ k u, l[k]? = some u → w.cell? ((⟨q, 0, none⟩ : Addr).add k) = some u := by
    intro k u hu
    rw [add_mk, hblk.cell]; simpa using hu
  obtain ⟨g, cap', w', hrun, hown', hg⟩ := run_append_keep (P := c.P) w t o.type e it z size bytes hul hit hz hsz hby hzs hs0 oa n cap xs hown ⟨q, 0, none⟩ m mc hm l hlen hcell h1 (by unfold maxLen; omega) hbytes
  have hres : ∃ G', ((oa = some ⟨g, 0, none⟩ ∧ G' = G) ∨ G' = (oa, xs) :: G) ∧ Frm (growRes e size oa n cap xs G).fp w w' ∧ (growRes e size (some ⟨g, 0, none⟩) (n + m) cap' (xs ++ l) G').R w' ∧
      (∀ x ∈ (growRes e size (some ⟨g, 0, none⟩) (n + m) cap' (xs ++ l) G').fp, x ∈ (growRes e size oa n cap xs G).fp ∨ w.heap.size ≤ x) ∧ ∀ x ∈ (growRes e size (some ⟨g, 0, none⟩) (n + m) cap' (xs ++ l) G').fp, x < w'.heap.size := by
    rcases hg with ⟨rfl, hg⟩ | ⟨rfl, hlt, hg⟩
    · have hf : Frm [g] w w' := ⟨hg.os, hg.tape, hg.output, hg.size, fun k hk hn => hg.block k hk (by simpa using hn), run_drawn _ _ hrun⟩
      have hgn : g ∉ (rdsRes G).fp := fun h => hap g h (by simp [rowRes])
      refine ⟨G, .inl ⟨rfl, rfl⟩, hf.mono (by simp [Res.both, rowRes]), ⟨?_, hown', hap⟩, fun x hx => .inl hx, fun x hx => ?_⟩
      · exact (rdsRes G).stable w w' (fun k hk => hf.block k (rds_lt hG k hk) (by rintro h; simp at h; exact hgn (h ▸ hk))) hG
      · have hx' : x = g ∨ x ∈ (rdsRes G).fp := by
          rcases List.mem_append.1 hx with h | h
          · exact .inr h
          · left; simpa [rowRes] using h
        rcases hx' with rfl | hx'
        · exact (hown'.lt _ rfl).2
        · exact Nat.lt_of_lt_of_le (rds_lt hG x hx') hg.size
    · have hf : Frm [] w w' := ⟨hg.os, hg.tape, hg.output, hg.size, fun k hk hn => hg.block k hk (by simp), run_drawn _ _ hrun⟩
      have hrd : (rdsRes ((oa, xs) :: G)).R w := fun x hx => by
        rcases List.mem_cons.1 hx with rfl | hx
        · exact rd_of_row hown
        · exact hG x hx
      have hrd' : (rdsRes ((oa, xs) :: G)).R w' := (rdsRes ((oa, xs) :: G)).stable w w' (fun k hk => hf.block k (rds_lt hrd k hk) (by simp)) hrd
      have hfp : ∀ x ∈ (rdsRes ((oa, xs) :: G)).fp, x ∈ (growRes e size oa n cap xs G).fp := by
        intro x hx
        have hx' : x ∈ (readRes oa xs).fp ∨ x ∈ (rdsRes G).fp := by simpa [rdsRes] using hx
        rcases hx' with hx' | hx'
        · refine List.mem_append.2 (.inr ?_)
          cases oa with
          | none => cases hx'
          | some a => obtain rfl := rd_fp hx'; simp [rowRes]
        · exact List.mem_append.2 (.inl hx')
      have hlt0 : ∀ x ∈ (rdsRes ((oa, xs) :: G)).fp, x < w.heap.size := rds_lt hrd
      refine ⟨(oa, xs) :: G, .inr rfl, hf.mono (by simp), ⟨hrd', hown', fun x hx' hx => ?_⟩, fun x hx => ?_, fun x hx => ?_⟩
      · simp [rowRes] at hx
        have := hlt0 x hx'
        omega
      · have hx' : x = w.heap.size ∨ x ∈ (rdsRes ((oa, xs) :: G)).fp := by
          rcases List.mem_append.1 hx with h | h
          · exact .inr h
          · left; simpa [rowRes] using h
        rcases hx' with rfl | hx'
        · exact .inr (Nat.le_refl _)
        · exact .inl (hfp x hx')
      · have hx' : x = w.heap.size ∨ x ∈ (rdsRes ((oa, xs) :: G)).fp := by
          rcases List.mem_append.1 hx with h | h
          · exact .inr h
          · left; simpa [rowRes] using h
        rcases hx' with rfl | hx'
        · exact hlt
        · exact Nat.lt_of_lt_of_le (hlt0 x hx') hg.size
  obtain ⟨G', hG', hf, hR, hfp, hlt⟩ := hres
  refine ⟨_, w', .raw (.slice (some ⟨g, 0, none⟩) (n + m) cap'), setCells mem i [.res (growRes e size (some ⟨g, 0, none⟩) (n + m) cap' (xs ++ l) G')], ids', ?_, rfl, List.prefix_refl _, hI.updR i hb rfl rfl hf hR hfp hlt, satS_mono hp (hk g cap' G' hG')⟩
  unfold execOp
  simp only [ho, resolve, invoke, builtin, Sem.run_bind, Sem.run_pure, Result.andThen_ok, List.map_toArray, List.map_cons, List.map_nil, ← hx', ← hy', hrun]
/-- The row joins what is only read. -/
theorem grow_end {e : TypeId} {size n cap : Nat} {o : Option Addr} {xs : List Value} {G : List (Option Addr × List Value)} {w : World} (h : (growRes e size o n cap xs G).R w) : (rdsRes ((o, xs) :: G)).R w ∧ ∀ x ∈ (rdsRes ((o, xs) :: G)).fp, x ∈ (growRes e size o n cap xs G).fp := by
  obtain ⟨h2, h1, _⟩ := h
  refine ⟨fun x hx => ?_, fun x hx => ?_⟩
  · rcases List.mem_cons.1 hx with rfl | hx
    · exact rd_of_row h1
    · exact h2 x hx
  · have hx' : x ∈ (readRes o xs).fp ∨ x ∈ (rdsRes G).fp := by simpa [rdsRes] using hx
    rcases hx' with hx' | hx'
    · refine List.mem_append.2 (.inr ?_)
      cases o with
      | none => cases hx'
      | some a => obtain rfl := rd_fp hx'; simp [rowRes]
    · exact List.mem_append.2 (.inl hx')
/-- A part is told anew in the same world, of less blocks. -/
theorem Inv.lessR (hI : Inv c w ids mem) (i : Nat) {b : SBlk} {ρ ρ' : Res} (hb : nth mem i = some b) (hr : resOf b = some ρ) (hrw : b.rw = true) (h : ρ.R w → ρ'.R w ∧ ∀ x ∈ ρ'.fp, x ∈ ρ.fp) : Inv c w ids (setCells mem i [.res ρ']) := by
  obtain ⟨h1, h2⟩ := h (hI.res i hb hr)
  exact hI.updR (w' := w) i hb hr hrw ((Frm.refl [] w).mono (by simp)) h1 (fun x hx => .inl (h2 x hx)) (fun x hx => hI.resLt i hb hr x (h2 x hx))

/-! ### A family of parts -/
def allRes (A : List Res) : Res where
  fp := A.flatMap Res.fp
  R w := (∀ r ∈ A, r.R w) ∧ ∀ i j : Nat, ∀ r s, A[i]? = some r → A[j]? = some s → i ≠ j → ∀ x ∈ r.fp, x ∉ s.fp
  stable := fun w w' hk h => ⟨fun r hr => r.stable w w' (fun k hk' => hk k (List.mem_flatMap.2 ⟨r, hr, hk'⟩)) (h.1 r hr), h.2⟩
theorem all_nil (w : World) : (allRes []).R w := ⟨by simp, by simp⟩
/-- One is taken out; what stays in its place is nothing. -/
theorem all_out {A : List Res} {w : World} {i : Nat} {r : Res} (h : (allRes A).R w) (hr : A[i]? = some r) : ((allRes (A.set i Res.none)).both r).R w ∧ ∀ x ∈ ((allRes (A.set i Res.none)).both r).fp, x ∈ (allRes A).fp := by
  have hset : ∀ (k : Nat) s, (A.set i Res.none)[k]? = some s → (k = i ∧ s = Res.none) ∨ (k ≠ i ∧ A[k]? = some s) := by
    intro k s hs
    rw [List.getElem?_set] at hs
    split at hs
    · rename_i e
      split at hs
      · simp at hs; exact .inl ⟨e.symm, hs.symm⟩
      · cases hs
    · rename_i e; exact .inr ⟨fun e' => e e'.symm, hs⟩
  refine ⟨⟨⟨fun s hs => ?_, fun k j s t hs ht hkj x hx => ?_⟩, h.1 r (List.mem_of_getElem? hr), fun x hx hxr => ?_⟩, fun x hx => ?_⟩
  · obtain ⟨k, hk⟩ := List.getElem?_of_mem hs
    rcases hset k s hk with ⟨_, rfl⟩ | ⟨_, hk⟩
    · trivial
    · exact h.1 s (List.mem_of_getElem? hk)
  · rcases hset k s hs with ⟨_, rfl⟩ | ⟨_, hs⟩
    · simp [Res.none] at hx
    · rcases hset j t ht with ⟨_, rfl⟩ | ⟨_, ht⟩
      · simp [Res.none]
      · exact h.2 k j s t hs ht hkj x hx
  · obtain ⟨s, hs, hx⟩ := List.mem_flatMap.1 hx
    obtain ⟨k, hk⟩ := List.getElem?_of_mem hs
    rcases hset k s hk with ⟨_, rfl⟩ | ⟨hki, hk⟩
    · simp [Res.none] at hx
    · exact h.2 k i s r hk hr hki x hx hxr
  · rcases List.mem_append.1 hx with hx | hx
    · obtain ⟨s, hs, hx⟩ := List.mem_flatMap.1 hx
      obtain ⟨k, hk⟩ := List.getElem?_of_mem hs
      rcases hset k s hk with ⟨_, rfl⟩ | ⟨_, hk⟩
      · simp [Res.none] at hx
      · exact List.mem_flatMap.2 ⟨s, List.mem_of_getElem? hk, hx⟩
    · exact List.mem_flatMap.2 ⟨r, List.mem_of_getElem? hr, hx⟩
/-- It comes back, or another in its place. -/
theorem all_in {A : List Res} {w : World} {i : Nat} {r : Res} (h : ((allRes A).both r).R w) (hi : A[i]? = some Res.none) : (allRes (A.set i r)).R w ∧ ∀ x ∈ (allRes (A.set i r)).fp, x ∈ ((allRes A).both r).fp := by
  obtain ⟨⟨h1, h2⟩, h3, h4⟩ := h
  have hset : ∀ (k : Nat) s, (A.set i r)[k]? = some s → (k = i ∧ s = r) ∨ (k ≠ i ∧ A[k]? = some s) := by
    intro k s hs
    rw [List.getElem?_set] at hs
    split at hs
    · rename_i e
      split at hs
      · simp at hs; exact .inl ⟨e.symm, hs.symm⟩
      · cases hs
    · rename_i e; exact .inr ⟨fun e' => e e'.symm, hs⟩
  refine ⟨⟨fun s hs => ?_, fun k j s t hs ht hkj x hx hxt => ?_⟩, fun x hx => ?_⟩
  · obtain ⟨k, hk⟩ := List.getElem?_of_mem hs
    rcases hset k s hk with ⟨_, rfl⟩ | ⟨_, hk⟩
    · exact h3
    · exact h1 s (List.mem_of_getElem? hk)
  · rcases hset k s hs with ⟨e1, e2⟩ | ⟨_, hs1⟩
    · rcases hset j t ht with ⟨e3, e4⟩ | ⟨_, ht1⟩
      · exact hkj (e1.trans e3.symm)
      · exact h4 x (List.mem_flatMap.2 ⟨t, List.mem_of_getElem? ht1, hxt⟩) (e2 ▸ hx)
    · rcases hset j t ht with ⟨e3, e4⟩ | ⟨_, ht1⟩
      · exact h4 x (List.mem_flatMap.2 ⟨s, List.mem_of_getElem? hs1, hx⟩) (e4 ▸ hxt)
      · exact h2 k j s t hs1 ht1 hkj x hx hxt
  · obtain ⟨s, hs, hxs⟩ := List.mem_flatMap.1 hx
    obtain ⟨k, hk⟩ := List.getElem?_of_mem hs
    rcases hset k s hk with ⟨_, e⟩ | ⟨_, hk⟩
    · exact List.mem_append.2 (.inr (e ▸ hxs))
    · have hx := hxs
      exact List.mem_append.2 (.inl (List.mem_flatMap.2 ⟨s, List.mem_of_getElem? hk, hx⟩))
/-- One more. -/
theorem all_add {A : List Res} {w : World} {r : Res} (h : ((allRes A).both r).R w) : (allRes (A ++ [r])).R w ∧ ∀ x ∈ (allRes (A ++ [r])).fp, x ∈ ((allRes A).both r).fp := by
  obtain ⟨⟨h1, h2⟩, h3, h4⟩ := h
  have hat : ∀ (k : Nat) s, (A ++ [r])[k]? = some s → A[k]? = some s ∨ (k = A.length ∧ s = r) := by
    intro k s hs
    rcases Nat.lt_or_ge k A.length with hk | hk
    · rw [List.getElem?_append_left hk] at hs; exact .inl hs
    · rw [List.getElem?_append_right hk] at hs
      have : k - A.length = 0 := by have := (List.getElem?_eq_some_iff.1 hs).1; simp at this; omega
      rw [this] at hs; simp at hs
      exact .inr ⟨by omega, hs.symm⟩
  refine ⟨⟨fun s hs => ?_, fun k j s t hs ht hkj x hx hxt => ?_⟩, fun x hx => ?_⟩
  · rcases List.mem_append.1 hs with hs | hs
    · exact h1 s hs
    · simp at hs; subst hs; exact h3
  · rcases hat k s hs with hs1 | ⟨e1, e2⟩
    · rcases hat j t ht with ht1 | ⟨e3, e4⟩
      · exact h2 k j s t hs1 ht1 hkj x hx hxt
      · exact h4 x (List.mem_flatMap.2 ⟨s, List.mem_of_getElem? hs1, hx⟩) (e4 ▸ hxt)
    · rcases hat j t ht with ht1 | ⟨e3, e4⟩
      · exact h4 x (List.mem_flatMap.2 ⟨t, List.mem_of_getElem? ht1, hxt⟩) (e2 ▸ hx)
      · exact hkj (e1.trans e3.symm)
  · obtain ⟨s, hs, hxs⟩ := List.mem_flatMap.1 hx
    rcases List.mem_append.1 hs with hs | hs
    · exact List.mem_append.2 (.inl (List.mem_flatMap.2 ⟨s, hs, hxs⟩))
    · simp at hs; exact List.mem_append.2 (.inr (hs ▸ hxs))
/-- A part of two is spread: its second goes behind all others. -/
theorem Inv.part2 (hI : Inv c w ids mem) (i : Nat) {b : SBlk} {ρ σ : Res} (hb : nth mem i = some b) (hr : resOf b = some (ρ.both σ)) (t : TypeId) : Inv c w (ids ++ [0]) (setCells mem i [.res ρ] ++ [⟨t, [.res σ], b.rw⟩]) := by
  have hR := hI.res i hb hr
  have hlt := hI.resLt i hb hr
  have hlen := hI.len
  have hL : ∀ k b, k < ids.length → fpOf (ids ++ [0]) k b = fpOf ids k b := fun k b hk => fpOf_ids (List.prefix_append _ _) hk
  have e1 : ∀ k, fpOf ids k { b with cells := [SV.res ρ] } = ρ.fp := fun k => by rw [fpOf_res (r := ρ) rfl]
  have hcase : ∀ k b', nth (setCells mem i [.res ρ] ++ [⟨t, [.res σ], b.rw⟩]) k = some b' → (k = i ∧ b' = { b with cells := [.res ρ] }) ∨ (k < ids.length ∧ k ≠ i ∧ nth mem k = some b') ∨ (k = ids.length ∧ b' = ⟨t, [.res σ], b.rw⟩) := by
    intro k b' hk
    rcases Nat.lt_or_ge k (setCells mem i [.res ρ]).length with h | h
    · have hkl : k < ids.length := by rw [setCells_len] at h; omega
      rw [nth_app_left h] at hk
      by_cases e : i = k
      · subst e
        rw [nth_setCells hb] at hk
        simp at hk
        exact .inl ⟨rfl, hk.symm⟩
      · rw [nth_setCells_ne e] at hk
        exact .inr (.inl ⟨hkl, fun e' => e e'.symm, hk⟩)
    · rw [nth_app_right h] at hk
      have h0 : k - (setCells mem i [SV.res ρ]).length = 0 := by have := nth_lt hk; simp at this; omega
      rw [h0] at hk
      simp [nth] at hk
      rw [setCells_len] at h h0
      exact .inr (.inr ⟨by omega, hk.symm⟩)
  have hil : i < ids.length := by have := nth_lt hb; omega
  have hfb : fpOf ids i b = ρ.fp ++ σ.fp := by rw [fpOf_res hr]; rfl
  refine ⟨hI.frm, by simp [setCells_len, hlen], ?_, ?_, ?_⟩
  · intro k b' hk
    rcases hcase k b' hk with ⟨rfl, rfl⟩ | ⟨h1, h2, h3⟩ | ⟨rfl, rfl⟩
    · exact ⟨hR.1, fun x hx => hlt x (List.mem_append.2 (.inl hx))⟩
    · exact (hI.good k b' h3).ids (List.prefix_append _ _) h1
    · exact ⟨hR.2.1, fun x hx => hlt x (List.mem_append.2 (.inr hx))⟩
  · intro k j bk bj hk hj hkj x hx hxj
    have f2 : fpOf (ids ++ [0]) ids.length ⟨t, [SV.res σ], b.rw⟩ = σ.fp := by rw [fpOf_res (r := σ) rfl]
    rcases hcase k bk hk with ⟨rfl, rfl⟩ | ⟨h1, h2, h3⟩ | ⟨rfl, rfl⟩
    · rw [hL k _ hil, e1] at hx
      rcases hcase j bj hj with ⟨rfl, rfl⟩ | ⟨g1, g2, g3⟩ | ⟨rfl, rfl⟩
      · exact hkj rfl
      · rw [hL j _ g1] at hxj
        exact hI.apart k j b bj hb g3 hkj x (by rw [hfb]; exact List.mem_append.2 (.inl hx)) hxj
      · rw [f2] at hxj
        exact hR.2.2 x hx hxj
    · rw [hL k _ h1] at hx
      rcases hcase j bj hj with ⟨rfl, rfl⟩ | ⟨g1, g2, g3⟩ | ⟨rfl, rfl⟩
      · rw [hL j _ hil, e1] at hxj
        exact hI.apart k j bk b h3 hb hkj x hx (by rw [hfb]; exact List.mem_append.2 (.inl hxj))
      · rw [hL j _ g1] at hxj
        exact hI.apart k j bk bj h3 g3 hkj x hx hxj
      · rw [f2] at hxj
        exact hI.apart k i bk b h3 hb h2 x hx (by rw [hfb]; exact List.mem_append.2 (.inr hxj))
    · rw [f2] at hx
      rcases hcase j bj hj with ⟨rfl, rfl⟩ | ⟨g1, g2, g3⟩ | ⟨rfl, rfl⟩
      · rw [hL j _ hil, e1] at hxj
        exact hR.2.2 x hxj hx
      · rw [hL j _ g1] at hxj
        exact hI.apart i j b bj hb g3 (fun e => g2 e.symm) x (by rw [hfb]; exact List.mem_append.2 (.inr hx)) hxj
      · exact hkj rfl
  · intro k b' hk hrw x hx
    rcases hcase k b' hk with ⟨rfl, rfl⟩ | ⟨h1, h2, h3⟩ | ⟨rfl, rfl⟩
    · rw [hL k _ hil, e1] at hx
      exact hI.own k b hb hrw x (by rw [hfb]; exact List.mem_append.2 (.inl hx))
    · rw [hL k _ h1] at hx
      exact hI.own k b' h3 hrw x hx
    · rw [fpOf_res (r := σ) rfl] at hx
      exact hI.own i b hb hrw x (by rw [hfb]; exact List.mem_append.2 (.inr hx))
/-- Part j goes into the family i. -/
theorem Inv.join (hI : Inv c w ids mem) (i j : Nat) {b b2 : SBlk} {A A' : List Res} {σ : Res} (hij : i ≠ j) (hb : nth mem i = some b) (hr : resOf b = some (allRes A)) (hb2 : nth mem j = some b2) (hr2 : resOf b2 = some σ) (hrw : b.rw = true) (hrw2 : b2.rw = true)
    (h : ((allRes A).both σ).R w → (allRes A').R w ∧ ∀ x ∈ (allRes A').fp, x ∈ ((allRes A).both σ).fp) : Inv c w ids (setCells (setCells mem i [.res (allRes A')]) j [.res Res.none]) := by
  have h1 := hI.absorb i j hij hb hr hb2 hr2 hrw hrw2
  have hb1 : nth (setCells mem i [.res ((allRes A).both σ)]) j = some b2 := by rw [nth_setCells_ne hij]; exact hb2
  have hi1 : nth (setCells (setCells mem i [.res ((allRes A).both σ)]) j [.res Res.none]) i = some { b with cells := [.res ((allRes A).both σ)] } := by rw [nth_setCells_ne (fun e => hij e.symm), nth_setCells hb]
  have h2 := h1.lessR i hi1 (ρ := (allRes A).both σ) (ρ' := allRes A') rfl hrw h
  have e : setCells (setCells (setCells mem i [.res ((allRes A).both σ)]) j [.res Res.none]) i [.res (allRes A')] = setCells (setCells mem i [.res (allRes A')]) j [.res Res.none] := by
    have same : ∀ (l : Mem) (i : Nat) (x z : List SV), setCells (setCells l i x) i z = setCells l i z := by
      intro l
      induction l with
      | nil => intros; rfl
      | cons a l ih => intro i x z; obtain ⟨t, cs, q⟩ := a; cases i with | zero => rfl | succ i => simp only [setCells, ih]
    have comm : ∀ (l : Mem) (i j : Nat) (x y z : List SV), i ≠ j → setCells (setCells (setCells l i x) j y) i z = setCells (setCells l i z) j y := by
      intro l
      induction l with
      | nil => intros; rfl
      | cons a l ih =>
        obtain ⟨t, cs, q⟩ := a
        intro i j x y z hij
        cases i with
        | zero => cases j with
          | zero => exact absurd rfl hij
          | succ j => rfl
        | succ i => cases j with
          | zero => simp only [setCells, same]
          | succ j => simp only [setCells, ih i j x y z (by omega)]
    exact comm _ _ _ _ _ _ hij
  rw [← e]
  exact h2
/-- Memory told otherwise ahead of a loop; new names behind the old ones. -/
theorem n_loopX {body : Code} (ids2 : List Nat) (mem' : Mem) (hl : mem.length = ids.length) (hm : ∀ w, Inv c w ids mem → Inv c w (ids ++ ids2) mem') (h : satN c Q (.loop body ⟨fr, mem', todo⟩) (ids ++ ids2)) : satN c Q (.loop body ⟨fr, mem, todo⟩) ids :=
  satN_iff.2 fun ids' w a hp hI hF => by
    obtain rfl := ext0 hp (by rw [hI.len, hl])
    refine wp_mono (satN_iff.1 h _ w a (List.prefix_refl _) (hm w hI) (hF.mono (List.prefix_append _ _))) ?_
    rintro _ _ _ ⟨x, fr2, mem2, ids3, h0, h1, h2, h3, h4⟩
    exact ⟨x, fr2, mem2, ids3, h0, (List.prefix_append _ _).trans h1, h2, h3, h4⟩
theorem all_at {A : List Res} {w : World} (h : (allRes A).R w) {i : Nat} {r : Res} (hr : A[i]? = some r) : r.R w := h.1 r (List.mem_of_getElem? hr)
end
end
end Go.Proofs.YtglafgpjgkphkaaGreatDoor
