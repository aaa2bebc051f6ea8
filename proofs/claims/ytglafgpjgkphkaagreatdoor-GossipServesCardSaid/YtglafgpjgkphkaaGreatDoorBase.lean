/- Words on worlds: a block known whole; what a call may have written. -/
import Derived.WalkKit
import Derived.Deep.Draws
namespace Go.Proofs.YtglafgpjgkphkaaGreatDoor
open Go.RowKit

/-- Block b holds just these cells, of elements of type t, none frozen. -/
def Blk (w : World) (b : Nat) (cs : Array Value) (t : TypeId) : Prop := w.heap[b]? = some (.cells cs t (0, 0))
theorem Blk.cell {w : World} {b : Nat} {cs : Array Value} {t : TypeId} (h : Blk w b cs t) (i : Nat) : w.cell? ⟨b, i, none⟩ = cs[i]? := by
  unfold Blk at h; simp [World.cell?, h]
theorem Blk.free {w : World} {b : Nat} {cs : Array Value} {t : TypeId} (h : Blk w b cs t) (i : Nat) : w.frozen? ⟨b, i, none⟩ = false := by
  unfold Blk at h; simp [World.frozen?, h]
theorem Blk.to {w : World} {b : Nat} {cs cs' : Array Value} {t : TypeId} (h : Blk w b cs t) (e : cs = cs') : Blk w b cs' t := e ▸ h
theorem Blk.lt {w : World} {b : Nat} {cs : Array Value} {t : TypeId} (h : Blk w b cs t) : b < w.heap.size := lt_of_block h
theorem Blk.alloc {w : World} {b : Nat} {cs : Array Value} {t : TypeId} (h : Blk w b cs t) (o : Obj) : Blk (w.alloc o) b cs t :=
  (Below.heap_alloc w o b h.lt).trans h
theorem Blk.drew {w : World} {b : Nat} {cs : Array Value} {t : TypeId} (h : Blk w b cs t) : Blk w.drew b cs t := h
theorem Blk.drewN {w : World} {b : Nat} {cs : Array Value} {t : TypeId} (h : Blk w b cs t) (n : Nat) : Blk (w.drewN n) b cs t := h
theorem Blk.set {w : World} {b : Nat} {cs : Array Value} {t : TypeId} (h : Blk w b cs t) (i : Nat) (v : Value) : Blk (w.setCell ⟨b, i, none⟩ v) b (cs.setIfInBounds i v) t := by
  unfold Blk at *; simp [World.setCell, Array.getElem?_modify, h]
theorem Blk.setOther {w : World} {b : Nat} {cs : Array Value} {t : TypeId} (h : Blk w b cs t) {a : Addr} (ha : b ≠ a.block) (v : Value) : Blk (w.setCell a v) b cs t :=
  (Below.heap_setCell w a v b ha).trans h
theorem Blk.new (w : World) (cs : Array Value) (t : TypeId) : Blk (w.alloc (.cells cs t)) w.heap.size cs t := by
  show (w.heap.push _)[_]? = _
  simp

/-- No run takes draws back. -/
theorem ask_drawn {α : Type} : ∀ (x : Ask α) (w : World), w.drawn ≤ (w.ask x).2.drawn
  | .done a, w => Nat.le_refl _
  | .ask what r k, w => by
    unfold World.ask
    dsimp only
    split
    · exact ask_drawn (k 0) w
    · exact Nat.le_trans (Nat.le_succ _) (ask_drawn (k _) { w with drawn := w.drawn + 1 })
theorem sys_drawn (w : World) (c : Sys) : w.drawn ≤ (w.sys c).2.drawn := by
  have h := ask_drawn (Kernel.perform c w.os) w
  unfold World.sys
  split
  · exact Nat.le_refl _
  · rename_i e; rw [e] at h; exact h
theorem setCell_drawn (w : World) (p : Addr) (u : Value) : w.drawn ≤ (w.setCell p u).drawn := Nat.le_refl _
theorem viewStore_drawn {p : Program} {w w' : World} {at_ k : Addr} {u : TypeId} {v : Value} {b : Bool} {l : List Addr} (h : w.viewStore p at_ u k v b = .ok (w', l)) : w.drawn ≤ w'.drawn := by
  unfold World.viewStore at h
  simp only [bind, Except.bind, pure, Except.pure] at h
  repeat' (split at h)
  all_goals first | (cases h; done) | skip
  all_goals (simp only [Except.ok.injEq, Prod.mk.injEq] at h; obtain ⟨rfl, _⟩ := h; exact Nat.le_refl _)
theorem farStore_drawn {p : Program} {w w' : World} {a : Addr} {v : Value} {b : Bool} {l : List Addr} (h : w.farStore p a v b = .ok (w', l)) : w.drawn ≤ w'.drawn := by
  unfold World.farStore at h
  split at h
  · split at h
    · rename_i hv
      simp only [Except.ok.injEq] at h
      subst h
      exact viewStore_drawn hv
    · cases h
  · cases h
theorem run_drawn {α : Type} {p : Program} : ∀ (x : Sem α) (w : World) {a : α} {w' : World}, x.run p w = .ok a w' → w.drawn ≤ w'.drawn := by
  intro x
  induction x with
  | pure a => intro w a' w' h; simp only [Sem.run, Result.ok.injEq] at h; rw [h.2]; exact Nat.le_refl _
  | load m a k ih =>
    intro w b w' h
    simp only [Sem.run] at h
    split at h
    · exact ih _ _ h
    · split at h
      · exact ih _ _ h
      · cases h
  | store m a v k ih =>
    intro w b w' h
    cases v <;> simp only [Sem.run] at h
    all_goals first
      | (cases h; done)
      | (split at h
         · split at h
           · cases h
           · exact ih (w.setCell a _) h
         · split at h
           · rename_i hf
             exact Nat.le_trans (farStore_drawn hf) (ih _ h)
           · cases h)
  | new o k ih => intro w b w' h; simp only [Sem.run] at h; exact ih _ { w with heap := w.heap.push o } h
  | shape r k ih => intro w b w' h; simp only [Sem.run] at h; exact ih _ _ h
  | freeze a n k ih =>
    intro w b w' h
    simp only [Sem.run] at h
    refine Nat.le_trans ?_ (ih (w.freeze a n) h)
    unfold World.freeze
    split <;> exact Nat.le_refl _
  | frozen a k ih => intro w b w' h; simp only [Sem.run] at h; exact ih _ _ h
  | getObj r k ih =>
    intro w b w' h
    simp only [Sem.run] at h
    split at h
    · cases h
    · exact ih _ _ h
    · cases h
  | setObj r o k ih =>
    intro w b w' h
    simp only [Sem.run] at h
    split at h
    · cases h
    · exact ih { w with heap := w.heap.setIfInBounds r o } h
    · cases h
  | choose q k ih =>
    intro w b w' h
    simp only [Sem.run] at h
    split at h
    · exact ih _ _ h
    · exact Nat.le_trans (Nat.le_succ _) (ih _ { w with drawn := w.drawn + 1 } h)
  | sys c k ih => intro w b w' h; simp only [Sem.run] at h; exact Nat.le_trans (sys_drawn w c) (ih _ _ h)
  | program k ih => intro w b w' h; simp only [Sem.run] at h; exact ih _ _ h
  | mark m k ih => intro w b w' h; simp only [Sem.run] at h; exact ih w h
  | halt h => intro w b w' h'; cases h'
/-- What w' may have other than w: the blocks of the list, and new ones. -/
structure Frm (S : List Nat) (w w' : World) : Prop where
  os : w'.os = w.os
  tape : w'.tape = w.tape
  output : w'.output = w.output
  size : w.heap.size ≤ w'.heap.size
  block : ∀ k, k < w.heap.size → k ∉ S → w'.heap[k]? = w.heap[k]?
  drawn : w.drawn ≤ w'.drawn
theorem Frm.refl (S : List Nat) (w : World) : Frm S w w := ⟨rfl, rfl, rfl, Nat.le_refl _, fun _ _ _ => rfl, Nat.le_refl _⟩
theorem Frm.trans {S : List Nat} {a b c : World} (h : Frm S a b) (k : Frm S b c) : Frm S a c :=
  ⟨k.os.trans h.os, k.tape.trans h.tape, k.output.trans h.output, Nat.le_trans h.size k.size, fun i hi hn => (k.block i (Nat.lt_of_lt_of_le hi h.size) hn).trans (h.block i hi hn), Nat.le_trans h.drawn k.drawn⟩
theorem Frm.mono {S S' : List Nat} {a b : World} (h : Frm S a b) (hs : ∀ x, x ∈ S → x ∈ S') : Frm S' a b :=
  ⟨h.os, h.tape, h.output, h.size, fun i hi hn => h.block i hi fun hx => hn (hs i hx), h.drawn⟩
theorem Frm.alloc {S : List Nat} {a w : World} (h : Frm S a w) (o : Obj) : Frm S a (w.alloc o) :=
  h.trans ⟨rfl, rfl, rfl, by simp, fun k hk _ => Below.heap_alloc _ _ _ hk, Nat.le_refl _⟩
theorem Frm.drew {S : List Nat} {a w : World} (h : Frm S a w) : Frm S a w.drew := ⟨h.os, h.tape, h.output, h.size, h.block, Nat.le_trans h.drawn (Nat.le_succ _)⟩
theorem Frm.drewN {S : List Nat} {a w : World} (h : Frm S a w) (n : Nat) : Frm S a (w.drewN n) := ⟨h.os, h.tape, h.output, h.size, h.block, Nat.le_trans h.drawn (Nat.le_add_right _ _)⟩
theorem Frm.set {S : List Nat} {a w : World} (h : Frm S a w) {p : Addr} (hp : p.block ∈ S) (u : Value) : Frm S a (w.setCell p u) :=
  h.trans ⟨rfl, rfl, rfl, by simp, fun k _ hn => Below.heap_setCell _ _ _ _ fun e => hn (e ▸ hp), setCell_drawn _ _ _⟩
theorem Frm.setNew {S : List Nat} {a w : World} (h : Frm S a w) {p : Addr} (hp : a.heap.size ≤ p.block) (u : Value) : Frm S a (w.setCell p u) :=
  ⟨h.os, h.tape, h.output, by simpa using h.size, fun k hk hn => (Below.heap_setCell _ _ _ _ (by omega)).trans (h.block k hk hn), Nat.le_trans h.drawn (setCell_drawn _ _ _)⟩
/-- A call behind others: what it writes is of the list, or new since the beginning. -/
theorem Frm.then {S S' : List Nat} {a b c : World} (h : Frm S a b) (k : Frm S' b c) (hs : ∀ x, x ∈ S' → x ∈ S ∨ a.heap.size ≤ x) : Frm S a c :=
  ⟨k.os.trans h.os, k.tape.trans h.tape, k.output.trans h.output, Nat.le_trans h.size k.size, fun i hi hn =>
    (k.block i (Nat.lt_of_lt_of_le hi h.size) fun hx => (hs i hx).elim hn (by omega)).trans (h.block i hi hn), Nat.le_trans h.drawn k.drawn⟩
theorem Frm.blk {S : List Nat} {w w' : World} (h : Frm S w w') {b : Nat} {cs : Array Value} {t : TypeId} (hb : Blk w b cs t) (hn : b ∉ S) : Blk w' b cs t :=
  (h.block b hb.lt hn).trans hb
theorem Frm.below {S : List Nat} {w w' : World} (h : Frm S w w') {B : Nat} (hB : B ≤ w.heap.size) (hs : ∀ x, x ∈ S → B ≤ x) : Below B w w' :=
  ⟨h.os, h.tape, h.output, h.size, fun k hk => h.block k (by omega) fun hx => by have := hs k hx; omega⟩
theorem Frm.of_below {w w' : World} (h : Below w.heap.size w w') (hd : w.drawn ≤ w'.drawn) : Frm [] w w' := ⟨h.os, h.tape, h.output, h.size, fun k hk _ => h.block k hk, hd⟩
theorem Frm.of_drewN (w : World) (n : Nat) : Frm [] w (w.drewN n) := (Frm.refl [] w).drewN n

theorem ret_int {k : IntKind} {a b : Int} (h : a = b) : Ending.returned (.int k a) = .returned (.int k b) := by rw [h]
theorem ret_bool {a b : Bool} (h : a = b) : Ending.returned (.bool a) = .returned (.bool b) := by rw [h]
end Go.Proofs.YtglafgpjgkphkaaGreatDoor
