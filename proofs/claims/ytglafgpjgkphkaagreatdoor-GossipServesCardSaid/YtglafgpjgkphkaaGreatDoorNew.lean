/- The reckoner: calls that leave a new block behind. -/
import Derived.Test.YtglafgpjgkphkaaGreatDoorSp
namespace Go.Proofs.YtglafgpjgkphkaaGreatDoor
open Go.RowKit

section
variable {c : Ctx} {Q : SExit → Fr → Mem → List Nat → World → Prop} {ids ids1 : List Nat} {w : World} {a : Act} {fr : Fr} {mem : Mem}

/-- Behind a call that has left a new block. -/
theorem Inv.add (hI : Inv c w ids mem) {w' : World} (hf : Frm [] w w') {n : Nat} {b : SBlk} {l : List Value} (hn : w.heap.size ≤ n) (hd : denL (ids ++ [n]) b.cells = some l) (hb : Blk w' n l.toArray b.ty) : Inv c w' (ids ++ [n]) (mem ++ [b]) :=
  hI.adds hf [n] [b] rfl (by simp) (by simpa using hn) fun i b' m h1 h2 => by
    cases i with
    | zero => simp [nth] at h1 h2; subst h1; subst h2; exact ⟨l, hd, hb⟩
    | succ i => simp [nth] at h1

theorem sat_brT {b : Bool} {t f : Tree} (hb : b = true) (h : sat c Q t ids) : sat c Q (.br b t f) ids := by subst hb; exact ⟨fun _ => h, fun h => by cases h⟩
theorem sat_brF {b : Bool} {t f : Tree} (hb : b = false) (h : sat c Q f ids) : sat c Q (.br b t f) ids := by subst hb; exact ⟨fun h => (by cases h), fun _ => h⟩
/-- A weaker end. -/
theorem sat_impl {Q' : SExit → Fr → Mem → List Nat → World → Prop} (hq : ∀ x fr mem ids w, Frm c.S c.w0 w → Q x fr mem ids w → Q' x fr mem ids w) : ∀ (t : Tree) {ids : List Nat}, sat c Q t ids → sat c Q' t ids
  | .fin x fr mem, _, h => fun ids' w hp hI => hq _ _ _ _ _ hI.frm (h ids' w hp hI)
  | .br b t f, _, h => ⟨fun hb => sat_impl hq t (h.1 hb), fun hb => sat_impl hq f (h.2 hb)⟩
  | .both t f, _, h => ⟨sat_impl hq t h.1, sat_impl hq f h.2⟩
  | .must b t, _, h => ⟨h.1, sat_impl hq t h.2⟩
  | .chk b t, _, h => ⟨h.1, sat_impl hq t h.2⟩
  | .ld t ad mem k, _, h => by
    obtain ⟨r, hr, hs⟩ := h
    exact ⟨r, hr, sat_impl hq (k r) hs⟩
  | .call f args mem k, _, h => fun ids' w vs hp hI hv => (h ids' w vs hp hI hv).mono fun _ _ ⟨r, v, mem2, ids2, h1, h2, h3, h4, h5⟩ => ⟨r, v, mem2, ids2, h1, h2, h3, h4, sat_impl hq _ h5⟩
  | .same x y t, _, h => ⟨h.1, sat_impl hq t h.2⟩
  | .op o fr mem k, _, h => fun ids' w a QE hp hI hF => Oper.wp_mono (fun _ _ ⟨r, v, mem2, ids2, h1, h2, h3, h4, h5⟩ => ⟨r, v, mem2, ids2, h1, h2, h3, h4, sat_impl hq _ h5⟩) (h ids' w a QE hp hI hF)
  | .region id ops fr mem k, _, h => fun ids' w a hp hI hF => wp_mono (h ids' w a hp hI hF) fun _ _ _ ⟨h0, fr2, mem2, ids2, h1, h2, h3, h4⟩ => ⟨h0, fr2, mem2, ids2, h1, h2, h3, sat_impl hq _ h4⟩
  | .loop body fr mem k, _, h => fun ids' w a hp hI hF => wp_mono (h ids' w a hp hI hF) fun _ _ _ ⟨x, fr2, mem2, ids2, h0, h1, h2, h3, h4⟩ => ⟨x, fr2, mem2, ids2, h0, h1, h2, h3, sat_impl hq _ h4⟩
  | .stuck _, _, h => h

theorem sat_new {f : FuncId} {args : List SV} {k : SV → Mem → Tree} {vs : List Value} (r : SV) (b : SBlk) (v : Nat → Value) (l : List Value) (hl : mem.length = ids.length) (hv : denL ids args = some vs)
    (hr : ∀ n, den (ids ++ [n]) r = some (v n)) (hd : ∀ n, denL (ids ++ [n]) b.cells = some l)
    (h : ∀ w, Inv c w ids mem → Calls c.P f vs.toArray w (fun e w2 => ∃ n, w.heap.size ≤ n ∧ e = .returned (v n) ∧ Frm [] w w2 ∧ Blk w2 n l.toArray b.ty))
    (hk : ∀ n, c.w0.heap.size ≤ n → (∀ i b m, nth mem i = some b → resOf b = none → ids[i]? = some m → m ≠ n) → sat c Q (k r (mem ++ [b])) (ids ++ [n])) : sat c Q (.call f args mem k) ids :=
  sat_call0 hl hv fun w hI => (h w hI).mono fun _ _ ⟨n, hn, he, hf, hb⟩ =>
    ⟨r, v n, _, _, he, hr n, List.prefix_append _ _, hI.add hf hn (hd n) hb, hk n (Nat.le_trans hI.frm.size hn) fun i b m h1 h2 h3 hm => by have := (hI.good i b h1).lt m (by rw [fpOf_cells h2 h3]; simp); omega⟩
end
end Go.Proofs.YtglafgpjgkphkaaGreatDoor
